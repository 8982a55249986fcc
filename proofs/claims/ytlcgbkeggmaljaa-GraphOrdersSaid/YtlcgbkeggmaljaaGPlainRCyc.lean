/- Graphs, plain: the shortest cycle as the reference finds it is the program's. -/
import Derived.Test.YtlcgbkeggmaljaaGPlainAcyc
import Derived.Test.YtlcgbkeggmaljaaGLess
namespace Go.Proofs.Ytlcgbkeggmaljaa
set_option linter.unusedVariables false
set_option linter.unusedSimpArgs false

/-- the edges over nodes that are not less. -/
def hsE (i : Nat) (es : List (Int × Int)) : List (Int × Int) := es.filter fun e => decide ((i : Int) ≤ e.1) && decide ((i : Int) ≤ e.2)
theorem mem_hsE {i : Nat} {es : List (Int × Int)} {x : Int × Int} : x ∈ hsE i es ↔ x ∈ es ∧ (i : Int) ≤ x.1 ∧ (i : Int) ≤ x.2 := by
  unfold hsE
  rw [List.mem_filter, Bool.and_eq_true, decide_eq_true_iff, decide_eq_true_iff]
theorem hsE_valid {N i : Nat} {es : List (Int × Int)} (h : validG N es = true) : validG N (hsE i es) = true := by
  unfold validG at *
  rw [Bool.and_eq_true, Bool.and_eq_true, decide_eq_true_iff, decide_eq_true_iff, List.all_eq_true] at *
  refine ⟨⟨h.1.1, ?_⟩, fun x hx => h.2 x (mem_hsE.1 hx).1⟩
  have := List.length_filter_le (fun e : Int × Int => decide ((i : Int) ≤ e.1) && decide ((i : Int) ≤ e.2)) es
  unfold hsE
  omega
/-- the candidate behind a successor. -/
def rcand (N : Nat) (es : List (Int × Int)) (i k : Nat) : List Nat := if k = i then [i] else i :: (pathF N (hsE i es) k i).dropLast
def rcStep (N : Nat) (es : List (Int × Int)) (i : Nat) (best : List Nat) (k : Nat) : List Nat :=
  if ((i : Int), (k : Int)) ∈ hsE i es ∧ pathF N (hsE i es) k i ≠ [] then (if best = [] ∨ lessL (rcand N es i k) best = true then rcand N es i k else best) else best
def rcRow (N : Nat) (es : List (Int × Int)) (i : Nat) (best : List Nat) (k : Nat) : List Nat := (List.range k).foldl (rcStep N es i) best
def rcAll (N : Nat) (es : List (Int × Int)) (m : Nat) : List Nat := (List.range m).foldl (fun best i => rcRow N es i best N) []
theorem rcRow_succ (N : Nat) (es : List (Int × Int)) (i : Nat) (best : List Nat) (k : Nat) : rcRow N es i best (k + 1) = rcStep N es i (rcRow N es i best k) k := by
  unfold rcRow
  rw [List.range_succ, List.foldl_append]
  rfl
theorem rcRow_low (N : Nat) (es : List (Int × Int)) (i : Nat) (best : List Nat) : ∀ k, k ≤ i → rcRow N es i best k = best
  | 0, _ => rfl
  | k + 1, h => by
    rw [rcRow_succ, rcRow_low N es i best k (by omega)]
    unfold rcStep
    rw [if_neg]
    rintro ⟨hm, _⟩
    have := (mem_hsE.1 hm).2.2
    simp at this
    omega
theorem rcAll_succ (N : Nat) (es : List (Int × Int)) (m : Nat) : rcAll N es (m + 1) = rcRow N es m (rcAll N es m) N := by
  unfold rcAll
  rw [List.range_succ, List.foldl_append]
  rfl
theorem find_filter {α : Type} (p q : α → Bool) (h : ∀ a, p a = true → q a = true) : ∀ l : List α, (l.filter q).find? p = l.find? p
  | [] => rfl
  | a :: l => by
    rw [List.filter_cons]
    cases hp : p a with
    | true => rw [if_pos (h a hp), List.find?_cons_of_pos hp, List.find?_cons_of_pos hp]
    | false =>
      rw [List.find?_cons_of_neg (by simp [hp])]
      split
      · rw [List.find?_cons_of_neg (by simp [hp])]; exact find_filter p q h l
      · exact find_filter p q h l
theorem cfar_ge {N : Nat} {es : List (Int × Int)} {i : Nat} {d : List Int} (h : DistR (sucs N (es.map swapE)) i i d) {b : Nat} (hb : 0 ≤ gD d b) : i ≤ b := by
  by_cases e : gD d b = 0
  · rw [h.zero b e]; exact Nat.le_refl _
  · obtain ⟨c, hc, _⟩ := h.pred b (gD d b - 1).toNat (by omega)
    unfold ofP at hc
    simpa using (List.mem_filter.1 hc).2
theorem bfs_hs {N : Nat} {es : List (Int × Int)} {i : Nat} (hi : i < N) : bfsD (sucs N ((hsE i es).map swapE)) 0 i = cfar N es i := by
  have hd : DistR (sucs N (es.map swapE)) i i (cfar N es i) := bfsD_dist sucs_lt (by rw [sucs_length]; exact hi)
  have h1 : DistR (sucs N ((hsE i es).map swapE)) 0 i (bfsD (sucs N ((hsE i es).map swapE)) 0 i) := bfsD_dist sucs_lt (by rw [sucs_length]; exact hi)
  refine h1.unique ⟨by rw [hd.len, sucs_length, sucs_length], hd.lo, hd.t0, hd.zero, fun a m ha => ?_, fun b hb a ha => ?_⟩
  · obtain ⟨b, hb, hm⟩ := hd.pred a m ha
    refine ⟨b, ?_, hm⟩
    unfold ofP at hb ⊢
    obtain ⟨hb1, hb2⟩ := List.mem_filter.1 hb
    have hb2 : i ≤ a := by simpa using hb2
    have hbi := cfar_ge hd (b := b) (by omega)
    obtain ⟨m1, m2, m3⟩ := mem_sucs.1 hb1
    exact List.mem_filter.2 ⟨mem_sucs.2 ⟨m1, m2, mem_swap.2 (mem_hsE.2 ⟨mem_swap.1 m3, by simpa using hb2, by simpa using hbi⟩)⟩, by simp⟩
  · refine hd.near b hb a ?_
    unfold ofP at ha ⊢
    obtain ⟨m1, m2, m3⟩ := mem_sucs.1 (List.mem_filter.1 ha).1
    obtain ⟨m4, m5, _⟩ := mem_hsE.1 (mem_swap.1 m3)
    exact List.mem_filter.2 ⟨mem_sucs.2 ⟨m1, m2, mem_swap.2 m4⟩, by simpa using m5⟩
theorem sucs_hs {N : Nat} {es : List (Int × Int)} {i n : Nat} (hn : n < N) (hi : i ≤ n) : (sucs N (hsE i es)).getD n [] = ((sucs N es).getD n []).filter fun k => decide (i ≤ k) := by
  rw [sucs_getD _ _ _ hn, sucs_getD _ _ _ hn]
  unfold sucL
  rw [List.filter_filter]
  refine List.filter_congr fun k _ => ?_
  rw [Bool.eq_iff_iff, Bool.and_eq_true, List.contains_iff_mem, List.contains_iff_mem, mem_hsE, decide_eq_true_iff]
  constructor
  · rintro ⟨h1, h2, h3⟩
    exact ⟨by simpa using h3, h1⟩
  · rintro ⟨h1, h2⟩
    exact ⟨h2, by simpa using hi, by simpa using h1⟩
theorem descP_hs {N : Nat} {es : List (Int × Int)} {i : Nat} {d : List Int} (h : DistR (sucs N (es.map swapE)) i i d) : ∀ (m n : Nat), gD d n = (m : Int) → descP (sucs N (hsE i es)) d m n = descP (sucs N es) d m n
  | 0, n, _ => rfl
  | m + 1, n, hn => by
    have hin := cfar_ge h (b := n) (by rw [hn]; omega)
    have hnN : n < N := by
      have h1 := gD_lt (d := d) (a := n) (by rw [hn]; omega)
      have h2 := h.len
      rw [sucs_length] at h2
      omega
    unfold descP
    have key : ∀ k, (gD d k == (m : Int)) = true → decide (i ≤ k) = true := fun k hk => by
      have h7 : gD d k = (m : Int) := by simpa using hk
      exact decide_eq_true (cfar_ge h (b := k) (by omega))
    rw [sucs_hs hnN hin, find_filter _ _ key]
    cases e : ((sucs N es).getD n []).find? (fun k => gD d k == (m : Int)) with
    | none => rfl
    | some k =>
      simp only
      rw [descP_hs h m k (by simpa using List.find?_some e)]
theorem pathF_hs {N : Nat} {es : List (Int × Int)} {i k : Nat} (hi : i < N) : pathF N (hsE i es) k i = if gD (cfar N es i) k < 0 then [] else descP (sucs N es) (cfar N es i) (gD (cfar N es i) k).toNat k := by
  have hd : DistR (sucs N (es.map swapE)) i i (cfar N es i) := bfsD_dist sucs_lt (by rw [sucs_length]; exact hi)
  unfold pathF
  simp only
  rw [bfs_hs hi]
  split
  · rfl
  · exact descP_hs hd _ k (by omega)
/-- what the program takes as candidate. -/
def pcand (N : Nat) (es : List (Int × Int)) (i k : Nat) : List Nat := (i :: descP (sucs N es) (cfar N es i) (gD (cfar N es i) k).toNat k).dropLast
theorem pcand_spec {N : Nat} {es : List (Int × Int)} {i k m : Nat} (hi : i < N) (hm : gD (cfar N es i) k = (m : Int)) : (pcand N es i k).length = m + 1 ∧ (pcand N es i k)[0]? = some i ∧ (0 < m → (pcand N es i k)[1]? = some k) ∧ pcand N es i k = rcand N es i k := by
  have hd : DistR (sucs N (es.map swapE)) i i (cfar N es i) := bfsD_dist sucs_lt (by rw [sucs_length]; exact hi)
  obtain ⟨⟨w1, w2, w3⟩, hl, _⟩ := descP_get hd m k hm
  have hr : rcand N es i k = if k = i then [i] else i :: (descP (sucs N es) (cfar N es i) m k).dropLast := by
    have hpf : pathF N (hsE i es) k i = descP (sucs N es) (cfar N es i) m k := by rw [pathF_hs hi, if_neg (by omega), hm, Int.toNat_natCast]
    unfold rcand
    rw [hpf]
  have hp : pcand N es i k = (i :: descP (sucs N es) (cfar N es i) m k).dropLast := by unfold pcand; rw [hm, Int.toNat_natCast]
  rw [hr, hp]
  generalize hpp : descP (sucs N es) (cfar N es i) m k = p at *
  cases p with
  | nil => simp at hl
  | cons x l =>
    simp at w1
    subst w1
    refine ⟨by simp at hl ⊢; omega, ?_, fun h0 => ?_, ?_⟩
    · simp
    · cases l with
      | nil => simp at hl; omega
      | cons y l => simp
    · by_cases e : x = i
      · subst e
        rw [if_pos rfl]
        have h0 := hd.t0
        rw [hm] at h0
        have : m = 0 := by omega
        subst this
        cases l with
        | nil => rfl
        | cons y l => simp at hl
      · rw [if_neg e]
        rfl
/-- the program's choice behind some successors. -/
def ctake (N : Nat) (es : List (Int × Int)) (i : Nat) (best : List Nat) (st : Int × Int) : List Nat := if st.1 < 0 ∨ (best ≠ [] ∧ (best.length : Int) ≤ st.2 + 1) then best else pcand N es i st.1.toNat
def pstep (N : Nat) (es : List (Int × Int)) (i : Nat) (best : List Nat) (k : Nat) : List Nat := if 0 ≤ gD (cfar N es i) k then (if best = [] ∨ lessL (pcand N es i k) best = true then pcand N es i k else best) else best
theorem ctake_step {N : Nat} {es : List (Int × Int)} {i k : Nat} {best : List Nat} {st : Int × Int} (hi : i < N) (hb : best ≠ [] → ∃ j, best[0]? = some j ∧ j < i) (hk : i ≤ k)
    (hst : st.1 < 0 ∨ (0 ≤ st.2 ∧ ∃ k' : Nat, st.1 = (k' : Int) ∧ gD (cfar N es i) k' = st.2 ∧ k' < k)) : ctake N es i best (cstep (cfar N es i) st k) = pstep N es i (ctake N es i best st) k := by
  unfold pstep
  by_cases hf : 0 ≤ gD (cfar N es i) k
  case neg =>
    rw [if_neg hf]
    unfold cstep
    rw [if_neg (fun h => hf h.1)]
  case pos =>
    rw [if_pos hf]
    obtain ⟨m, hm⟩ : ∃ m : Nat, gD (cfar N es i) k = (m : Int) := ⟨(gD (cfar N es i) k).toNat, by omega⟩
    obtain ⟨c1, c2, c3, _⟩ := pcand_spec hi hm
    have hlb : best ≠ [] → best.length = m + 1 → lessL (pcand N es i k) best = false := fun hne hl => by
      unfold lessL
      rw [if_pos (c1.trans hl.symm)]
      obtain ⟨j, hj, hji⟩ := hb hne
      rw [lexL_at (pcand N es i k) best 0 i j (by simp) c2 hj (by omega)]
      exact decide_eq_false (by omega)
    have hless : ∀ l : List Nat, l.length ≠ m + 1 → lessL (pcand N es i k) l = decide (m + 1 < l.length) := fun l hl => by
      unfold lessL
      rw [if_neg (fun e => hl (e.symm.trans c1)), c1]
    have hbne : best ≠ [] → 0 < best.length := fun h => List.length_pos_iff.2 h
    by_cases hc : st.1 < 0 ∨ gD (cfar N es i) k < st.2
    · have e : cstep (cfar N es i) st k = ((k : Int), gD (cfar N es i) k) := if_pos ⟨hf, hc⟩
      rw [e]
      have hnew : ctake N es i best ((k : Int), gD (cfar N es i) k) = if best ≠ [] ∧ best.length ≤ m + 1 then best else pcand N es i k := by
        unfold ctake
        simp only [Int.toNat_natCast]
        by_cases h : best ≠ [] ∧ best.length ≤ m + 1
        · rw [if_pos h, if_pos (.inr ⟨h.1, by rw [hm]; omega⟩)]
        · rw [if_neg h, if_neg (by
            rintro (h1 | h1)
            · omega
            · exact h ⟨h1.1, by rw [hm] at h1; omega⟩)]
      rw [hnew]
      by_cases hold : st.1 < 0 ∨ (best ≠ [] ∧ (best.length : Int) ≤ st.2 + 1)
      · have e2 : ctake N es i best st = best := if_pos hold
        rw [e2]
        by_cases hbe : best = []
        · rw [if_neg (fun h => h.1 hbe), if_pos (.inl hbe)]
        · by_cases h : best.length ≤ m + 1
          · rw [if_pos ⟨hbe, h⟩, if_neg]
            rintro (h1 | h1)
            · exact hbe h1
            · by_cases hl : best.length = m + 1
              · rw [hlb hbe hl] at h1; cases h1
              · rw [hless best hl] at h1
                have := of_decide_eq_true h1
                omega
          · rw [if_neg (fun h2 => h h2.2), if_pos (.inr (by rw [hless best (by omega)]; exact decide_eq_true (by omega)))]
      · have e2 : ctake N es i best st = pcand N es i st.1.toNat := if_neg hold
        rw [e2]
        obtain ⟨hs2, k', hk1, hk2, hk3⟩ := hst.resolve_left (fun h => hold (.inl h))
        obtain ⟨m', hm'⟩ : ∃ m' : Nat, st.2 = (m' : Int) := ⟨st.2.toNat, by omega⟩
        obtain ⟨d1, _, _, _⟩ := pcand_spec (es := es) (k := k') hi (hk2.trans hm')
        have e3 : st.1.toNat = k' := by omega
        rw [e3]
        have hlt : m < m' := by
          rcases hc with hc | hc
          · exact absurd (.inl hc) hold
          · omega
        have hb2 : ¬ (best ≠ [] ∧ best.length ≤ m + 1) := fun h => hold (.inr ⟨h.1, by omega⟩)
        rw [if_neg hb2, if_pos (.inr (by rw [hless _ (by omega)]; exact decide_eq_true (by omega)))]
    · have e : cstep (cfar N es i) st k = st := if_neg (fun h => hc h.2)
      rw [e]
      obtain ⟨hs2, k', hk1, hk2, hk3⟩ := hst.resolve_left (fun h => hc (.inl h))
      obtain ⟨m', hm'⟩ : ∃ m' : Nat, st.2 = (m' : Int) := ⟨st.2.toNat, by omega⟩
      have hge : m' ≤ m := by
        have : ¬ gD (cfar N es i) k < st.2 := fun h => hc (.inr h)
        omega
      by_cases hold : st.1 < 0 ∨ (best ≠ [] ∧ (best.length : Int) ≤ st.2 + 1)
      · have e2 : ctake N es i best st = best := if_pos hold
        rw [e2]
        obtain ⟨hbe, hbl⟩ := hold.resolve_left (by omega)
        rw [if_neg]
        rintro (h1 | h1)
        · exact hbe h1
        · by_cases hl : best.length = m + 1
          · rw [hlb hbe hl] at h1; cases h1
          · rw [hless best hl] at h1
            have := of_decide_eq_true h1
            omega
      · have e2 : ctake N es i best st = pcand N es i st.1.toNat := if_neg hold
        rw [e2]
        obtain ⟨d1, d2, d3, _⟩ := pcand_spec (es := es) (k := k') hi (hk2.trans hm')
        have e3 : st.1.toNat = k' := by omega
        rw [e3, if_neg]
        rintro (h1 | h1)
        · rw [h1] at d1; simp at d1
        · by_cases hl : m' = m
          · subst hl
            have h0 : 0 < m' := by
              refine Nat.pos_of_ne_zero fun h0 => ?_
              have hd : DistR (sucs N (es.map swapE)) i i (cfar N es i) := bfsD_dist sucs_lt (by rw [sucs_length]; exact hi)
              have := hd.zero k (by omega)
              have := hd.zero k' (by omega)
              omega
            unfold lessL at h1
            rw [if_pos (c1.trans d1.symm), lexL_at (pcand N es i k) (pcand N es i k') 1 k k' (by
              have g : ∀ l : List Nat, l[0]? = some i → l.take 1 = [i] := fun l h => by
                cases l with
                | nil => simp at h
                | cons x l => simp at h; subst h; rfl
              rw [g _ c2, g _ d2]) (c3 h0) (d3 h0) (by omega)] at h1
            have := of_decide_eq_true h1
            omega
          · rw [hless _ (by omega)] at h1
            have := of_decide_eq_true h1
            omega
theorem ctake_fold {N : Nat} {es : List (Int × Int)} {i : Nat} {best : List Nat} (hi : i < N) (hb : best ≠ [] → ∃ j, best[0]? = some j ∧ j < i) : ∀ (l : List Nat) (st : Int × Int), l.Pairwise (· < ·) → (∀ k ∈ l, i ≤ k) →
    (st.1 < 0 ∨ (0 ≤ st.2 ∧ ∃ k' : Nat, st.1 = (k' : Int) ∧ gD (cfar N es i) k' = st.2 ∧ ∀ k ∈ l, k' < k)) → ctake N es i best (l.foldl (cstep (cfar N es i)) st) = l.foldl (pstep N es i) (ctake N es i best st)
  | [], _, _, _, _ => rfl
  | k :: l, st, hs, hl, hst => by
    rw [List.pairwise_cons] at hs
    rw [List.foldl_cons, List.foldl_cons, ← ctake_step hi hb (hl k (by simp)) (hst.imp id fun ⟨h1, k', h2, h3, h4⟩ => ⟨h1, k', h2, h3, h4 k (by simp)⟩)]
    refine ctake_fold hi hb l _ hs.2 (fun j hj => hl j (by simp [hj])) ?_
    unfold cstep
    split
    · rename_i hc
      exact .inr ⟨hc.1, k, rfl, rfl, fun j hj => hs.1 j hj⟩
    · exact hst.imp id fun ⟨h1, k', h2, h3, h4⟩ => ⟨h1, k', h2, h3, fun j hj => h4 j (by simp [hj])⟩
theorem foldl_filter {α β : Type} (p : α → Bool) (f : β → α → β) : ∀ (l : List α) (b : β), (l.filter p).foldl f b = l.foldl (fun b a => if p a then f b a else b) b
  | [], _ => rfl
  | a :: l, b => by
    rw [List.filter_cons, List.foldl_cons]
    split
    · rw [List.foldl_cons]; exact foldl_filter p f l _
    · exact foldl_filter p f l _
theorem foldl_same {α β : Type} {f g : β → α → β} : ∀ (l : List α) (b : β), (∀ a ∈ l, ∀ b, f b a = g b a) → l.foldl f b = l.foldl g b
  | [], _, _ => rfl
  | a :: l, b, h => by rw [List.foldl_cons, List.foldl_cons, h a (by simp) b]; exact foldl_same l _ (fun c hc => h c (by simp [hc]))
theorem rcRow_eq {N : Nat} {es : List (Int × Int)} {i : Nat} {best : List Nat} (hi : i < N) (hb : best ≠ [] → ∃ j, best[0]? = some j ∧ j < i) : rcRow N es i best N = cycStep N es best i := by
  have h1 : ofP (sucs N es) i i = (List.range N).filter fun k => decide (i ≤ k) && es.contains ((i : Int), (k : Int)) := by
    unfold ofP
    rw [sucs_getD _ _ _ hi]
    unfold sucL
    rw [List.filter_filter]
  have h2 : rcRow N es i best N = (ofP (sucs N es) i i).foldl (pstep N es i) best := by
    rw [h1, foldl_filter]
    unfold rcRow
    refine foldl_same _ _ fun k hk b => ?_
    unfold rcStep
    have hmem : ((i : Int), (k : Int)) ∈ hsE i es ↔ (decide (i ≤ k) && es.contains ((i : Int), (k : Int))) = true := by
      rw [mem_hsE, Bool.and_eq_true, decide_eq_true_iff, List.contains_iff_mem]
      constructor
      · rintro ⟨g1, _, g3⟩; exact ⟨by simpa using g3, g1⟩
      · rintro ⟨g1, g2⟩; exact ⟨g2, by simp, by simpa using g1⟩
    by_cases hc : (decide (i ≤ k) && es.contains ((i : Int), (k : Int))) = true
    · rw [if_pos hc]
      unfold pstep
      by_cases hf : 0 ≤ gD (cfar N es i) k
      · obtain ⟨m, hm⟩ : ∃ m : Nat, gD (cfar N es i) k = (m : Int) := ⟨(gD (cfar N es i) k).toNat, by omega⟩
        obtain ⟨_, _, _, c4⟩ := pcand_spec (es := es) hi hm
        rw [if_pos hf, if_pos ⟨hmem.2 hc, by
          rw [pathF_hs hi, if_neg (by omega)]
          intro e
          have := descP_pos (sucs N es) (cfar N es i) (gD (cfar N es i) k).toNat k
          rw [e] at this; simp at this⟩, c4]
      · rw [if_neg hf, if_neg (fun h => h.2 (by rw [pathF_hs hi, if_pos (by omega)]))]
    · rw [if_neg hc, if_neg (fun h => hc (hmem.1 h.1))]
  have h3 : (ofP (sucs N es) i i).Pairwise (· < ·) := by
    rw [h1]
    exact List.Pairwise.filter _ List.pairwise_lt_range
  have h4 : ∀ k ∈ ofP (sucs N es) i i, i ≤ k := fun k hk => by unfold ofP at hk; simpa using (List.mem_filter.1 hk).2
  have h5 := ctake_fold (es := es) hi hb (ofP (sucs N es) i i) (-1, 0) h3 h4 (.inl (by decide))
  have h6 : ctake N es i best (-1, 0) = best := if_pos (.inl (by decide))
  rw [h6] at h5
  rw [h2, ← h5]
  unfold cycStep ctake
  simp only
  have hok := cstep_ok (far := cfar N es i) (ofP (sucs N es) i i) (-1, 0) (.inl (by decide))
  generalize (ofP (sucs N es) i i).foldl (cstep (cfar N es i)) (-1, 0) = st at *
  by_cases hc : st.1 < 0 ∨ (best ≠ [] ∧ (best.length : Int) ≤ st.2 + 1)
  · rw [if_pos hc, if_pos hc]
  · rw [if_neg hc, if_neg hc]
    obtain ⟨hs, k0, k1, k2⟩ := hok.resolve_left (fun h => hc (.inl h))
    obtain ⟨m, hm⟩ : ∃ m : Nat, st.2 = (m : Int) := ⟨st.2.toNat, by omega⟩
    obtain ⟨_, _, _, c4⟩ := pcand_spec (es := es) hi (k2.trans hm)
    have e1 : st.1.toNat = k0 := by omega
    rw [e1, c4]
    have hpf : pathF N (hsE i es) k0 i = descP (sucs N es) (cfar N es i) (gD (cfar N es i) k0).toNat k0 := by rw [pathF_hs hi, if_neg (by omega)]
    unfold rcand
    rw [hpf]
    by_cases e : k0 = i
    · rw [if_pos e, if_pos (by omega)]
    · rw [if_neg e, if_neg (by omega)]
theorem rcAll_eq {N : Nat} {es : List (Int × Int)} : ∀ m, m ≤ N → rcAll N es m = cycF N es m ∧ (cycF N es m ≠ [] → ∃ j, (cycF N es m)[0]? = some j ∧ j < m)
  | 0, _ => ⟨rfl, fun h => absurd rfl h⟩
  | m + 1, h => by
    obtain ⟨i1, i2⟩ := rcAll_eq (N := N) (es := es) m (by omega)
    have hrow := rcRow_eq (N := N) (es := es) (i := m) (best := cycF N es m) (by omega) i2
    rw [rcAll_succ, i1, hrow, ← cycF_succ]
    refine ⟨rfl, fun hne => ?_⟩
    rw [cycF_succ] at hne ⊢
    unfold cycStep at hne ⊢
    simp only at hne ⊢
    split at hne
    · rename_i hc
      rw [if_pos hc]
      obtain ⟨j, h1, h2⟩ := i2 hne
      exact ⟨j, h1, by omega⟩
    · rename_i hc
      rw [if_neg hc]
      split
      · exact ⟨m, rfl, by omega⟩
      · exact ⟨m, rfl, by omega⟩
end Go.Proofs.Ytlcgbkeggmaljaa
