/- Graphs, plain: the components as the reference lists them are the program's. -/
import Derived.Test.YtlcgbkeggmaljaaGRGroups
import Derived.Test.YtlcgbkeggmaljaaGPlainPart
namespace Go.Proofs.Ytlcgbkeggmaljaa
set_option linter.unusedVariables false
set_option linter.unusedSimpArgs false

theorem sorted_eq {l m : List Nat} (h : l.Pairwise (· < ·)) (k : m.Pairwise (· < ·)) (e : ∀ a, a ∈ l ↔ a ∈ m) : l = m :=
  ((List.perm_ext_iff_of_nodup (h.imp fun h => Nat.ne_of_lt h) (k.imp fun h => Nat.ne_of_lt h)).2 e).eq_of_pairwise (fun a b _ _ h1 h2 => by omega) h k
theorem nodesG_filter (N : Nat) (es : List (Int × Int)) (p : Nat) : (nodesG N es).getD p [] = (List.range N).filter fun k => clG N es k == p := by
  refine sorted_eq (nodesG_srt N es p) (List.Pairwise.filter _ List.pairwise_lt_range) fun a => ?_
  rw [nodesG_mem, List.mem_filter, List.mem_range, beq_iff_eq]
/-- the least node of a component. -/
def hdG (N : Nat) (es : List (Int × Int)) (p : Nat) : Nat := ((List.range N).find? fun k => clG N es k == p).getD 0
theorem hdG_head {N : Nat} {es : List (Int × Int)} {p : Nat} (hp : p < (nodesG N es).length) : ((nodesG N es).getD p []).head? = some (hdG N es p) ∧ hdG N es p < N ∧ clG N es (hdG N es p) = p := by
  obtain ⟨a, ha, _⟩ := nodesG_hd hp
  have h1 := ha
  rw [nodesG_filter, List.head?_filter] at h1
  have h2 : hdG N es p = a := by unfold hdG; rw [h1]; rfl
  rw [h2]
  exact ⟨ha, (nodesG_mem.1 (List.mem_of_mem_head? ha)).1, (nodesG_mem.1 (List.mem_of_mem_head? ha)).2⟩
theorem hdG_lt {N : Nat} {es : List (Int × Int)} {p q : Nat} (hq : q < (nodesG N es).length) (h : p < q) : hdG N es p < hdG N es q := by
  obtain ⟨a, ha, hl⟩ := nodesG_hd (N := N) (es := es) (p := p) (by omega)
  have h1 := (hdG_head (N := N) (es := es) (p := p) (by omega)).1
  rw [ha] at h1
  have h2 := Option.some.inj h1
  rw [← h2]
  have h3 := hdG_head hq
  exact hl q h _ (nodesG_mem.2 ⟨h3.2.1, h3.2.2⟩)
theorem grpN_hd {N : Nat} {es : List (Int × Int)} {i : Nat} (hi : i < N) : grpN N es i = hdG N es (clG N es i) := by
  unfold grpN hdG
  rw [← List.range_eq_range']
  cases e : (List.range N).find? (fun k => clG N es k == clG N es i) with
  | some k => rfl
  | none =>
    have := List.find?_eq_none.1 e i (List.mem_range.2 hi)
    simp at this
theorem grpN_eq {N : Nat} {es : List (Int × Int)} {i j : Nat} (hi : i < N) (hj : j < N) : grpN N es i = grpN N es j ↔ clG N es i = clG N es j := by
  rw [grpN_hd hi, grpN_hd hj]
  refine ⟨fun h => ?_, fun h => by rw [h]⟩
  have h1 := (hdG_head (clG_lt (es := es) hi)).2.2
  have h2 := (hdG_head (clG_lt (es := es) hj)).2.2
  rw [← h1, ← h2, h]
/-- a group that can come next. -/
def rdyN (N : Nat) (es : List (Int × Int)) (fl : List Bool) (i : Nat) : Bool := (grpN N es i == i && !bD fl i) && es.all fun x => decide (grpN N es x.1.toNat ≠ i) || (decide (grpN N es x.2.toNat = i) || bD fl (grpN N es x.2.toNat))
def rcStepN (N : Nat) (es : List (Int × Int)) (st : List Bool × List (List Nat)) : List Bool × List (List Nat) :=
  match (List.range N).find? (rdyN N es st.1) with
  | some n => (st.1.set n true, st.2 ++ [(List.range N).filter fun i => grpN N es i == n])
  | none => st
def rcRunN (N : Nat) (es : List (Int × Int)) : Nat → List Bool × List (List Nat)
  | 0 => (List.replicate N false, [])
  | k + 1 => rcStepN N es (rcRunN N es k)
/-- what holds behind k groups. -/
theorem rcRunN_ok {N : Nat} {es : List (Int × Int)} (hv : validG N es = true) : ∀ k, k ≤ (nodesG N es).length → (rcRunN N es k).1.length = N ∧ (∀ n, n < N → (bD (rcRunN N es k).1 n = true ↔ clG N es n ∈ (listF (condG N es)).take k ∧ grpN N es n = n)) ∧
    (rcRunN N es k).2 = ((listF (condG N es)).take k).map (fun c => (nodesG N es).getD c []) ∧
    (∀ i, i < N → (rdyN N es (rcRunN N es k).1 i = true ↔ grpN N es i = i ∧ clG N es i ∉ (listF (condG N es)).take k ∧ ∀ d ∈ (condG N es).getD (clG N es i) [], d ∈ (listF (condG N es)).take k)) := by
  intro k
  have key : ∀ (fl : List Bool) (P : List Nat), (∀ n, n < N → (bD fl n = true ↔ clG N es n ∈ P ∧ grpN N es n = n)) → ∀ i, i < N → (rdyN N es fl i = true ↔ grpN N es i = i ∧ clG N es i ∉ P ∧ ∀ d ∈ (condG N es).getD (clG N es i) [], d ∈ P) := fun fl P hfl i hi => by
    unfold rdyN
    rw [Bool.and_eq_true, Bool.and_eq_true, beq_iff_eq, Bool.not_eq_true', List.all_eq_true]
    have hlist : ∀ n, n < N → (bD fl (grpN N es n) = true ↔ clG N es n ∈ P) := fun n hn => by
      have h1 := hdG_head (clG_lt (es := es) hn)
      have h2 := grpN_hd (es := es) hn
      have h3 : clG N es (grpN N es n) = clG N es n := by rw [h2]; exact h1.2.2
      have h4 : grpN N es n < N := by rw [h2]; exact h1.2.1
      have h5 : grpN N es (grpN N es n) = grpN N es n := (grpN_eq h4 hn).2 h3
      rw [hfl _ h4, h3]
      exact ⟨fun h => h.1, fun h => ⟨h, h5⟩⟩
    constructor
    · rintro ⟨⟨h1, h2⟩, h3⟩
      have h4 : clG N es i ∉ P := fun hm => by
        have := (hfl i hi).2 ⟨hm, h1⟩
        rw [h2] at this
        cases this
      refine ⟨h1, h4, fun d hd => ?_⟩
      obtain ⟨n, j, hn, hj, hp, hdj, hne⟩ := condG_mem.1 hd
      have hjN : j < N := by have := sucs_lt (N := N) (es := es) n j hj; rwa [sucs_length] at this
      have h5 := h3 _ (mem_sucs.1 hj).2.2
      simp only [Int.toNat_natCast, Bool.or_eq_true, decide_eq_true_iff] at h5
      rcases h5 with h5 | h5 | h5
      · exact absurd ((grpN_eq hn hi).2 hp |>.trans h1) h5
      · have h6 := (grpN_eq hjN hi).1 (h5.trans h1.symm)
        exact absurd (h6.symm.trans hdj) hne
      · rw [← hdj]
        exact (hlist j hjN).1 h5
    · rintro ⟨h1, h2, h3⟩
      refine ⟨⟨h1, ?_⟩, fun x hx => ?_⟩
      · cases e : bD fl i with
        | false => rfl
        | true => exact absurd ((hfl i hi).1 e).1 h2
      · have hed := validG_edge hv hx
        obtain ⟨x1, x2⟩ := x
        simp only at hed
        obtain ⟨n, rfl⟩ : ∃ n : Nat, x1 = (n : Int) := ⟨x1.toNat, by omega⟩
        obtain ⟨j, rfl⟩ : ∃ j : Nat, x2 = (j : Int) := ⟨x2.toNat, by omega⟩
        have hn : n < N := by omega
        have hj : j < N := by omega
        simp only [Int.toNat_natCast, Bool.or_eq_true, decide_eq_true_iff]
        by_cases e1 : grpN N es n = i
        · by_cases e2 : grpN N es j = i
          · exact .inr (.inl e2)
          · have c1 : clG N es n = clG N es i := (grpN_eq hn hi).1 (e1.trans h1.symm)
            have c2 : clG N es i ≠ clG N es j := fun e => e2 (((grpN_eq hj hi).2 e.symm).trans h1)
            exact .inr (.inr ((hlist j hj).2 (h3 _ (condG_mem.2 ⟨n, j, hn, mem_sucs.2 ⟨hn, hj, hx⟩, c1, rfl, c2⟩))))
        · exact .inl e1
  induction k with
  | zero =>
    intro _
    have h0 : ∀ n, bD (rcRunN N es 0).1 n = false := fun n => by
      show (List.replicate N false).getD n false = false
      rw [List.getD_eq_getElem?_getD, List.getElem?_replicate]
      split <;> rfl
    have h1 : ∀ n, n < N → (bD (rcRunN N es 0).1 n = true ↔ clG N es n ∈ (listF (condG N es)).take 0 ∧ grpN N es n = n) := fun n hn => by rw [h0]; simp
    exact ⟨by simp [rcRunN], h1, by simp [rcRunN], key _ _ h1⟩
  | succ k ih =>
    intro hk
    obtain ⟨i1, i2, i3, i4⟩ := ih (by omega)
    have hlen : (listF (condG N es)).length = (nodesG N es).length := by rw [listF_length, (condG_len N es).1]
    have hkl : k < (listF (condG N es)).length := by omega
    have ho := listG_ok N es
    have hget : (listF (condG N es))[k]? = some (listF (condG N es))[k] := by simp [hkl]
    have htk := List.take_succ_eq_append_getElem hkl
    obtain ⟨c, hc⟩ : ∃ c, c = (listF (condG N es))[k] := ⟨_, rfl⟩
    rw [← hc] at hget htk
    have hcM : c < (nodesG N es).length := (listG_mem c).1 (by rw [hc]; exact List.getElem_mem _)
    obtain ⟨_, hN, hcl⟩ := hdG_head hcM
    have hgh : grpN N es (hdG N es c) = hdG N es c := by rw [grpN_hd hN, hcl]
    have hcn : c ∉ (listF (condG N es)).take k := fun hm => by
      have h2 : ((listF (condG N es)).take (k + 1)).Nodup := List.Nodup.sublist (List.take_sublist _ _) ho.nod
      rw [htk] at h2
      exact (List.nodup_append.1 h2).2.2 _ hm _ (by simp) rfl
    have hfind : (List.range N).find? (rdyN N es (rcRunN N es k).1) = some (hdG N es c) := by
      rw [List.find?_eq_some_iff_append]
      refine ⟨(i4 _ hN).2 ⟨hgh, by rw [hcl]; exact hcn, by rw [hcl]; exact ho.top k c hget⟩, List.range (hdG N es c), (List.range (N - hdG N es c - 1)).map (· + (hdG N es c + 1)), ?_, fun y hy => ?_⟩
      · have e : N = hdG N es c + (1 + (N - hdG N es c - 1)) := by omega
        conv => lhs; rw [e, List.range_add, List.range_add]
        simp [List.range_succ, Function.comp_def, Nat.add_comm, Nat.add_left_comm]
        intro a _
        omega
      · have hyl := List.mem_range.1 hy
        cases er : rdyN N es (rcRunN N es k).1 y with
        | false => rfl
        | true =>
          obtain ⟨r1, r2, r3⟩ := (i4 y (by omega)).1 er
          have hyN : y < N := by omega
          have hlt : clG N es y < c := by
            rcases Nat.lt_trichotomy (clG N es y) c with h | h | h
            · exact h
            · have := grpN_hd (es := es) hyN
              rw [h] at this
              omega
            · have h1 := hdG_lt (clG_lt (es := es) hyN) h
              rw [← grpN_hd hyN] at h1
              omega
          obtain ⟨j, hj, hjn⟩ := ho.least k c hget (clG N es y) hlt r2
          exact absurd (r3 j hj) hjn
    have hrun : rcRunN N es (k + 1) = ((rcRunN N es k).1.set (hdG N es c) true, (rcRunN N es k).2 ++ [(List.range N).filter fun i => grpN N es i == hdG N es c]) := by
      show rcStepN N es (rcRunN N es k) = _
      unfold rcStepN
      rw [hfind]
    have hnew : ∀ n, n < N → (bD (rcRunN N es (k + 1)).1 n = true ↔ clG N es n ∈ (listF (condG N es)).take (k + 1) ∧ grpN N es n = n) := fun n hn => by
      rw [hrun, htk, List.mem_append, List.mem_singleton]
      show bD ((rcRunN N es k).1.set (hdG N es c) true) n = true ↔ _
      unfold bD
      by_cases e : n = hdG N es c
      · subst e
        rw [List.getD_eq_getElem?_getD, List.getElem?_set_self (by rw [i1]; exact hn)]
        exact ⟨fun _ => ⟨.inr hcl, hgh⟩, fun _ => rfl⟩
      · rw [List.getD_eq_getElem?_getD, List.getElem?_set_ne (Ne.symm e), ← List.getD_eq_getElem?_getD]
        refine (i2 n hn).trans ⟨fun h => ⟨.inl h.1, h.2⟩, fun h => ⟨h.1.resolve_right fun e2 => e ?_, h.2⟩⟩
        have := grpN_hd (es := es) hn
        rw [e2, h.2] at this
        exact this
    refine ⟨by rw [hrun]; show (List.set _ _ _).length = _; rw [List.length_set]; exact i1, hnew, ?_, key _ _ hnew⟩
    rw [hrun, htk, List.map_append]
    show (rcRunN N es k).2 ++ _ = _
    rw [i3]
    congr 1
    show [_] = [(nodesG N es).getD c []]
    rw [nodesG_filter]
    congr 1
    refine List.filter_congr fun i hi => ?_
    have hiN := List.mem_range.1 hi
    rw [Bool.eq_iff_iff, beq_iff_eq, beq_iff_eq]
    constructor
    · intro h
      have := (grpN_eq hiN hN).1 (h.trans hgh.symm)
      rw [this, hcl]
    · intro h
      rw [grpN_hd hiN, h]
/-- at the end none is ready, and the list is the program's. -/
theorem rcRunN_end {N : Nat} {es : List (Int × Int)} (hv : validG N es = true) : (rcRunN N es (nodesG N es).length).2 = compsG N es ∧ ∀ i, i < N → rdyN N es (rcRunN N es (nodesG N es).length).1 i = false := by
  obtain ⟨_, _, h3, h4⟩ := rcRunN_ok hv _ (Nat.le_refl _)
  have hlen : (listF (condG N es)).length = (nodesG N es).length := by rw [listF_length, (condG_len N es).1]
  rw [← hlen, List.take_length] at h3 h4
  rw [← hlen]
  refine ⟨h3, fun i hi => ?_⟩
  cases e : rdyN N es (rcRunN N es (listF (condG N es)).length).1 i with
  | false => rfl
  | true => exact absurd ((listG_mem _).2 (clG_lt hi)) ((h4 i hi).1 e).2.1
end Go.Proofs.Ytlcgbkeggmaljaa
