/- Graphs, plain: the levels as the reference computes them are the program's. -/
import Derived.Test.YtlcgbkeggmaljaaGPlainRComp
namespace Go.Proofs.Ytlcgbkeggmaljaa
set_option linter.unusedVariables false
set_option linter.unusedSimpArgs false

theorem lv_rank {N : Nat} {es : List (Int × Int)} {lv : Nat → Nat} (h : LevP N es lv) : ∀ (m c : Nat), rankG N es c ≤ m → c < (nodesG N es).length → lv c ≤ rankG N es c
  | m, c, hm, hc => by
    rcases h.attain c hc with h0 | ⟨d, hd, h0⟩
    · omega
    · have h1 := rankG_lt hd
      match m with
      | 0 => omega
      | m + 1 =>
        have := lv_rank h m d (by omega) (by have := (condG_ok N es).1 c d hd; rwa [(condG_len N es).1] at this)
        omega
theorem lv_le {N : Nat} {es : List (Int × Int)} {lv : Nat → Nat} (h : LevP N es lv) {c : Nat} (hc : c < (nodesG N es).length) : lv c ≤ N := by
  have h1 := lv_rank h _ c (Nat.le_refl _) hc
  have h2 : rankG N es c ≤ N := by
    unfold rankG
    have := List.length_filter_le (fun k => @decide (∃ n, n < N ∧ clG N es n = c ∧ Rch (sucs N es) n k) (Classical.propDecidable _)) (List.range N)
    rwa [List.length_range] at this
  omega
theorem levs_len {N : Nat} {es : List (Int × Int)} {lv : Nat → Nat} (h : LevP N es lv) : (levelsG N es).length ≤ N + 1 := by
  rcases h.ln with h0 | ⟨c, hc, h0⟩
  · omega
  · have := lv_le h hc
    omega
/-- one edge in the search for a component's level. -/
def lmStep (N : Nat) (es : List (Int × Int)) (L : Nat → Nat) (h : Nat) (n : Nat) (x : Int × Int) : Nat := if grpN N es x.1.toNat = h ∧ grpN N es x.2.toNat ≠ h then max n (L x.2.toNat + 1) else n
def lmax (N : Nat) (es : List (Int × Int)) (L : Nat → Nat) (h : Nat) (l : List (Int × Int)) : Nat := l.foldl (lmStep N es L h) 0
theorem lmax_succ (N : Nat) (es : List (Int × Int)) (L : Nat → Nat) (h k : Nat) (hk : k < es.length) : lmax N es L h (es.take (k + 1)) = lmStep N es L h (lmax N es L h (es.take k)) es[k] := by
  unfold lmax
  rw [List.take_succ_eq_append_getElem hk, List.foldl_append]
  rfl
theorem lmax_le (N : Nat) (es : List (Int × Int)) (L : Nat → Nat) (h m : Nat) : ∀ (l : List (Int × Int)) (n : Nat), n ≤ m → (∀ x ∈ l, grpN N es x.1.toNat = h → grpN N es x.2.toNat ≠ h → L x.2.toNat + 1 ≤ m) → l.foldl (lmStep N es L h) n ≤ m
  | [], _, hn, _ => hn
  | x :: l, n, hn, hl => by
    rw [List.foldl_cons]
    refine lmax_le N es L h m l _ ?_ (fun y hy => hl y (by simp [hy]))
    unfold lmStep
    split
    · rename_i hx
      have := hl x (by simp) hx.1 hx.2
      omega
    · exact hn
theorem lmax_ge (N : Nat) (es : List (Int × Int)) (L : Nat → Nat) (h : Nat) : ∀ (l : List (Int × Int)) (n : Nat), n ≤ l.foldl (lmStep N es L h) n ∧ ∀ x ∈ l, grpN N es x.1.toNat = h → grpN N es x.2.toNat ≠ h → L x.2.toNat + 1 ≤ l.foldl (lmStep N es L h) n
  | [], _ => ⟨Nat.le_refl _, fun x hx => by simp at hx⟩
  | x :: l, n => by
    rw [List.foldl_cons]
    obtain ⟨h1, h2⟩ := lmax_ge N es L h l (lmStep N es L h n x)
    refine ⟨Nat.le_trans ?_ h1, fun y hy e1 e2 => ?_⟩
    · unfold lmStep
      split <;> omega
    · rcases List.mem_cons.1 hy with rfl | hy
      · refine Nat.le_trans ?_ h1
        unfold lmStep
        rw [if_pos ⟨e1, e2⟩]
        omega
      · exact h2 y hy e1 e2
/-- an edge that leaves a component leads to one that is required to come before. -/
theorem edge_cond {N : Nat} {es : List (Int × Int)} {c i j : Nat} (hc : c < (nodesG N es).length) (hi : i < N) (hj : j < N) (hx : ((i : Int), (j : Int)) ∈ es) (h1 : grpN N es i = hdG N es c) (h2 : grpN N es j ≠ hdG N es c) : clG N es j ∈ (condG N es).getD c [] := by
  obtain ⟨_, hN, hcl⟩ := hdG_head hc
  have hgh : grpN N es (hdG N es c) = hdG N es c := by rw [grpN_hd hN, hcl]
  have c1 : clG N es i = c := ((grpN_eq hi hN).1 (h1.trans hgh.symm)).trans hcl
  exact condG_mem.2 ⟨i, j, hi, mem_sucs.2 ⟨hi, hj, hx⟩, c1, rfl, fun e => h2 (by rw [grpN_hd hj, ← e])⟩
theorem lmax_lev {N : Nat} {es : List (Int × Int)} (hv : validG N es = true) {lv : Nat → Nat} (h : LevP N es lv) {c : Nat} (hc : c < (nodesG N es).length) : lmax N es (fun n => lv (clG N es n)) (hdG N es c) es = lv c := by
  refine Nat.le_antisymm (lmax_le _ _ _ _ _ _ _ (Nat.zero_le _) fun x hx e1 e2 => ?_) ?_
  · have hed := validG_edge hv hx
    obtain ⟨x1, x2⟩ := x
    simp only at hed
    obtain ⟨n, rfl⟩ : ∃ n : Nat, x1 = (n : Int) := ⟨x1.toNat, by omega⟩
    obtain ⟨j, rfl⟩ : ∃ j : Nat, x2 = (j : Int) := ⟨x2.toNat, by omega⟩
    simp only [Int.toNat_natCast] at e1 e2 ⊢
    exact h.down c _ (edge_cond hc (by omega) (by omega) hx e1 e2)
  · rcases h.attain c hc with h0 | ⟨d, hd, h0⟩
    · omega
    · obtain ⟨n, j, hn, hj, hp, hdj, hne⟩ := condG_mem.1 hd
      obtain ⟨_, hjN, hx⟩ := mem_sucs.1 hj
      have := (lmax_ge N es (fun n => lv (clG N es n)) (hdG N es c) es 0).2 _ hx (by simp only [Int.toNat_natCast]; rw [grpN_hd hn, hp]) (by
        simp only [Int.toNat_natCast]
        intro e
        obtain ⟨_, hN, hcl⟩ := hdG_head hc
        have hgh : grpN N es (hdG N es c) = hdG N es c := by rw [grpN_hd hN, hcl]
        have := ((grpN_eq hjN hN).1 (e.trans hgh.symm)).trans hcl
        exact hne (this.symm.trans hdj))
      simp only [Int.toNat_natCast] at this
      rw [hdj] at this
      unfold lmax
      omega
theorem lmax_take {N : Nat} {es : List (Int × Int)} (hv : validG N es = true) {lv : Nat → Nat} (h : LevP N es lv) {c : Nat} (hc : c < (nodesG N es).length) (k : Nat) : lmax N es (fun n => lv (clG N es n)) (hdG N es c) (es.take k) ≤ lv c := by
  refine lmax_le _ _ _ _ _ _ _ (Nat.zero_le _) fun x hx e1 e2 => ?_
  have hx := List.mem_of_mem_take hx
  have hed := validG_edge hv hx
  obtain ⟨x1, x2⟩ := x
  simp only at hed
  obtain ⟨n, rfl⟩ : ∃ n : Nat, x1 = (n : Int) := ⟨x1.toNat, by omega⟩
  obtain ⟨j, rfl⟩ : ∃ j : Nat, x2 = (j : Int) := ⟨x2.toNat, by omega⟩
  simp only [Int.toNat_natCast] at e1 e2 ⊢
  exact h.down c _ (edge_cond hc (by omega) (by omega) hx e1 e2)
/-- what the reference's level array holds behind i components. -/
def LvR (N : Nat) (es : List (Int × Int)) (lv : Nat → Nat) (i : Nat) (d : List Int) : Prop := d.length = N ∧ ∀ n, n < N → clG N es n ∈ (listF (condG N es)).take i → gD d n = (lv (clG N es n) : Int)
theorem LvR.zero (N : Nat) (es : List (Int × Int)) (lv : Nat → Nat) : LvR N es lv 0 (List.replicate N 0) := ⟨by simp, fun n _ hm => by simp at hm⟩
theorem comp_at {N : Nat} {es : List (Int × Int)} {i : Nat} (hi : i < (compsG N es).length) : ∃ c, (listF (condG N es))[i]? = some c ∧ c < (nodesG N es).length ∧ (compsG N es)[i]? = some ((nodesG N es).getD c []) ∧ (∀ d ∈ (condG N es).getD c [], d ∈ (listF (condG N es)).take i) ∧ (listF (condG N es)).take (i + 1) = (listF (condG N es)).take i ++ [c] := by
  have hl : i < (listF (condG N es)).length := by unfold compsG at hi; rwa [List.length_map] at hi
  have hg : (listF (condG N es))[i]? = some (listF (condG N es))[i] := by simp [hl]
  refine ⟨(listF (condG N es))[i], hg, (listG_mem _).1 (List.getElem_mem _), ?_, (listG_ok N es).top i _ hg, List.take_succ_eq_append_getElem hl⟩
  unfold compsG
  rw [List.getElem?_map, hg]
  rfl
/-- what the array holds when the nodes of the next component are being set. -/
def SetR (d : List Int) (row : List Nat) (k : Nat) (v : Int) (d' : List Int) : Prop := d'.length = d.length ∧ ∀ n, n < d.length → gD d' n = if n ∈ row.take k then v else gD d n
theorem SetR.zero (d : List Int) (row : List Nat) (v : Int) : SetR d row 0 v d := ⟨rfl, fun n _ => by simp⟩
theorem SetR.step {d d' : List Int} {row : List Nat} {k : Nat} {v : Int} (h : SetR d row k v d') (hk : k < row.length) (hl : row[k] < d.length) : SetR d row (k + 1) v (d'.set row[k] v) := by
  refine ⟨by rw [List.length_set]; exact h.1, fun n hn => ?_⟩
  have hmem : n ∈ row.take (k + 1) ↔ n ∈ row.take k ∨ n = row[k] := by rw [List.take_succ_eq_append_getElem hk, List.mem_append, List.mem_singleton]
  rw [gD_set _ _ _ _ (by rw [h.1]; exact hl), h.2 n hn]
  by_cases e : n = row[k]
  · rw [if_pos e, if_pos (hmem.2 (.inr e))]
  · rw [if_neg e]
    by_cases hm : n ∈ row.take k
    · rw [if_pos hm, if_pos (hmem.2 (.inl hm))]
    · rw [if_neg hm, if_neg (fun h => (hmem.1 h).elim hm e)]
theorem LvR.step {N : Nat} {es : List (Int × Int)} {lv : Nat → Nat} {i c : Nat} {d d' : List Int} (h : LvR N es lv i d) (ht : (listF (condG N es)).take (i + 1) = (listF (condG N es)).take i ++ [c]) (hs : SetR d ((nodesG N es).getD c []) ((nodesG N es).getD c []).length (lv c : Int) d') : LvR N es lv (i + 1) d' := by
  refine ⟨hs.1.trans h.1, fun n hn hm => ?_⟩
  rw [hs.2 n (by rw [h.1]; exact hn)]
  by_cases e : clG N es n = c
  · rw [if_pos (by rw [List.take_length]; exact nodesG_mem.2 ⟨hn, e⟩), e]
  · rw [if_neg (fun h => e (nodesG_mem.1 (by rwa [List.take_length] at h)).2)]
    rw [ht, List.mem_append, List.mem_singleton] at hm
    exact h.2 n hn (hm.resolve_right e)
/-- the greatest level so far. -/
def mostL (lv : Nat → Nat) (l : List Nat) : Int := l.foldl (fun m c => max m (lv c : Int)) (-1)
theorem mostL_app (lv : Nat → Nat) (l : List Nat) (c : Nat) : mostL lv (l ++ [c]) = max (mostL lv l) (lv c : Int) := by
  unfold mostL
  rw [List.foldl_append]
  rfl
theorem most_fold (lv : Nat → Nat) : ∀ (l : List Nat) (m : Int), m ≤ l.foldl (fun m c => max m (lv c : Int)) m ∧ (∀ c ∈ l, (lv c : Int) ≤ l.foldl (fun m c => max m (lv c : Int)) m) ∧ (l.foldl (fun m c => max m (lv c : Int)) m = m ∨ ∃ c ∈ l, l.foldl (fun m c => max m (lv c : Int)) m = (lv c : Int))
  | [], m => ⟨Int.le_refl _, fun c hc => by simp at hc, .inl rfl⟩
  | x :: l, m => by
    rw [List.foldl_cons]
    obtain ⟨h1, h2, h3⟩ := most_fold lv l (max m (lv x : Int))
    refine ⟨by omega, fun c hc => ?_, ?_⟩
    · rcases List.mem_cons.1 hc with rfl | hc
      · omega
      · exact h2 c hc
    · rcases h3 with h3 | ⟨c, hc, h3⟩
      · by_cases e : m ≤ (lv x : Int)
        · exact .inr ⟨x, by simp, by rw [h3]; omega⟩
        · exact .inl (by rw [h3]; omega)
      · exact .inr ⟨c, by simp [hc], h3⟩
theorem mostL_all {N : Nat} {es : List (Int × Int)} {lv : Nat → Nat} (h : LevP N es lv) : mostL lv (listF (condG N es)) + 1 = ((levelsG N es).length : Int) := by
  obtain ⟨h1, h2, h3⟩ := most_fold lv (listF (condG N es)) (-1)
  have hup : mostL lv (listF (condG N es)) + 1 ≤ ((levelsG N es).length : Int) := by
    unfold mostL
    rcases h3 with h3 | ⟨c, hc, h3⟩
    · omega
    · have := h.lt c ((listG_mem c).1 hc)
      omega
  rcases h.ln with h0 | ⟨c, hc, h0⟩
  · unfold mostL at hup ⊢; omega
  · have := h2 c ((listG_mem c).2 hc)
    unfold mostL at hup ⊢
    omega
theorem mostL_bound {N : Nat} {es : List (Int × Int)} {lv : Nat → Nat} (h : LevP N es lv) (i : Nat) : -1 ≤ mostL lv ((listF (condG N es)).take i) ∧ mostL lv ((listF (condG N es)).take i) ≤ N := by
  obtain ⟨h1, h2, h3⟩ := most_fold lv ((listF (condG N es)).take i) (-1)
  refine ⟨h1, ?_⟩
  unfold mostL
  rcases h3 with h3 | ⟨c, hc, h3⟩
  · omega
  · have := lv_le h ((listG_mem c).1 (List.mem_of_mem_take hc))
    omega
/-- a row of the levels. -/
theorem level_row {N : Nat} {es : List (Int × Int)} {lv : Nat → Nat} (h : LevP N es lv) {d : List Int} (hd : ∀ n, n < N → gD d n = (lv (clG N es n) : Int)) (k : Nat) : (levelsG N es).getD k [] = (List.range N).filter fun n => gD d n == (k : Int) := by
  refine sorted_eq (h.srt k) (List.Pairwise.filter _ List.pairwise_lt_range) fun n => ?_
  rw [h.mem, List.mem_filter, List.mem_range, beq_iff_eq]
  constructor
  · rintro ⟨h1, h2⟩
    exact ⟨h1, by rw [hd n h1, h2]⟩
  · rintro ⟨h1, h2⟩
    rw [hd n h1] at h2
    exact ⟨h1, by omega⟩
theorem LvR.all {N : Nat} {es : List (Int × Int)} {lv : Nat → Nat} {d : List Int} (h : LvR N es lv (compsG N es).length d) (n : Nat) (hn : n < N) : gD d n = (lv (clG N es n) : Int) := by
  refine h.2 n hn ?_
  have e : (compsG N es).length = (listF (condG N es)).length := by unfold compsG; rw [List.length_map]
  rw [e, List.take_length]
  exact (listG_mem _).2 (clG_lt hn)
end Go.Proofs.Ytlcgbkeggmaljaa
