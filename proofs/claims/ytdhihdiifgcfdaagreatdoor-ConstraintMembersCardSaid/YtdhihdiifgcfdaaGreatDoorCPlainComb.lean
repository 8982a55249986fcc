/- Sets of places, plain: the places whose number of sets meets a condition. -/
import Derived.Test.YtdhihdiifgcfdaaGreatDoorCPlain
namespace Go.Proofs.YtdhihdiifgcfdaaGreatDoor
set_option linter.unusedVariables false
set_option linter.unusedSimpArgs false

/-- a place is in a set. -/
def hasB (s : List (Int × Int)) (p : Int) : Bool := (decide (0 ≤ p) && decide (p < 1000000)) && s.any fun x => decide (x.1 ≤ p) && decide (p < x.2)
theorem hasB_iff (s : List (Int × Int)) (p : Int) : hasB s p = true ↔ InL s p ∧ 0 ≤ p ∧ p < 1000000 := by
  unfold hasB InL
  simp only [Bool.and_eq_true, decide_eq_true_eq, List.any_eq_true]
  constructor
  · rintro ⟨⟨h1, h2⟩, x, hx, h3⟩
    exact ⟨⟨x, hx, h3⟩, h1, h2⟩
  · rintro ⟨⟨x, hx, h3⟩, h1, h2⟩
    exact ⟨⟨h1, h2⟩, x, hx, h3⟩
/-- in how many sets a place is. -/
def cntIn (l : List (List (Int × Int))) (p : Int) : Nat := l.countP fun s => hasB s p
/-- what a place changes. -/
def chgE (E : List (Int × Int)) (q : Int) : Int := (E.countP fun x => decide (x.1 = q) : Nat) - (E.countP fun x => decide (x.2 = q) : Nat)
def covE (E : List (Int × Int)) (p : Int) : Nat := E.countP fun x => decide (x.1 ≤ p) && decide (p < x.2)
def runC (E : List (Int × Int)) (bs : List Int) (k : Nat) : Int := ((bs.take k).map (chgE E)).sum
def outC (keep : Int → Bool) (E : List (Int × Int)) (bs : List Int) (k : Nat) : List (Int × Int) :=
  ((List.range k).filter fun i => keep (runC E bs (i + 1))).map fun i => (bs.getD i 0, bs.getD (i + 1) 0)
def spansOf (l : List (List (Int × Int))) : List (Int × Int) := l.flatMap canon
/-- each number once. -/
def onceI : List Int → List Int
  | [] => []
  | a :: l => if a ∈ onceI l then onceI l else a :: onceI l
theorem onceI_both : ∀ l : List Int, (onceI l).Nodup ∧ ∀ q, q ∈ onceI l ↔ q ∈ l
  | [] => ⟨List.nodup_nil, fun q => Iff.rfl⟩
  | a :: l => by
    obtain ⟨h1, h2⟩ := onceI_both l
    unfold onceI
    split
    · rename_i h
      refine ⟨h1, fun q => ?_⟩
      rw [List.mem_cons, h2]
      exact ⟨.inr, fun h3 => h3.elim (fun e => by rw [e]; exact (h2 a).1 h) id⟩
    · rename_i h
      exact ⟨List.nodup_cons.2 ⟨h, h1⟩, fun q => by rw [List.mem_cons, List.mem_cons, h2]⟩
/-- the bounds of spans. -/
def endsE (E : List (Int × Int)) : List Int := E.flatMap fun x => [x.1, x.2]
def leI (a b : Int) : Bool := decide (a ≤ b)
def boundsE (E : List (Int × Int)) : List Int := (onceI (0 :: 1000000 :: endsE E)).mergeSort leI
def combS (keep : Int → Bool) (l : List (List (Int × Int))) : List (Int × Int) :=
  canon (outC keep (spansOf l) (boundsE (spansOf l)) ((boundsE (spansOf l)).length - 1))

theorem runC_succ (E : List (Int × Int)) (bs : List Int) (k : Nat) (h : k < bs.length) : runC E bs (k + 1) = runC E bs k + chgE E bs[k] := by
  unfold runC
  rw [List.take_succ_eq_append_getElem h, List.map_append, List.sum_append]
  simp
theorem outC_succ (keep : Int → Bool) (E : List (Int × Int)) (bs : List Int) (k : Nat) :
    outC keep E bs (k + 1) = if keep (runC E bs (k + 1)) = true then outC keep E bs k ++ [(bs.getD k 0, bs.getD (k + 1) 0)] else outC keep E bs k := by
  unfold outC
  rw [List.range_succ, List.filter_append, List.map_append]
  by_cases h : keep (runC E bs (k + 1)) = true <;> simp [h]
theorem outC_len (keep : Int → Bool) (E : List (Int × Int)) (bs : List Int) (k : Nat) : (outC keep E bs k).length ≤ k := by
  unfold outC
  rw [List.length_map]
  have := List.length_filter_le (fun i => keep (runC E bs (i + 1))) (List.range k)
  rwa [List.length_range] at this

theorem leI_total (a b : Int) : (leI a b || leI b a) = true := by
  unfold leI
  rw [Bool.or_eq_true, decide_eq_true_eq, decide_eq_true_eq]
  omega
theorem leI_trans (a b c : Int) (h1 : leI a b = true) (h2 : leI b c = true) : leI a c = true := by
  unfold leI at *
  rw [decide_eq_true_eq] at *
  omega
theorem sorted_leI (l : List Int) : (l.mergeSort leI).Pairwise (· ≤ ·) := (List.pairwise_mergeSort leI_trans (fun a b => leI_total a b) l).imp fun h => of_decide_eq_true h
theorem strict_of {l : List Int} (h : l.Pairwise (· ≤ ·)) (hn : l.Nodup) : l.Pairwise (· < ·) := by
  refine (List.pairwise_and_iff.2 ⟨h, hn⟩).imp ?_
  rintro a b ⟨h1, h2⟩
  have : a ≠ b := h2
  omega
theorem strict_unique : ∀ {a b : List Int}, a.Pairwise (· < ·) → b.Pairwise (· < ·) → (∀ q, q ∈ a ↔ q ∈ b) → a = b
  | [], [], _, _, _ => rfl
  | [], y :: b, _, _, h => absurd ((h y).2 List.mem_cons_self) (by simp)
  | x :: a, [], _, _, h => absurd ((h x).1 List.mem_cons_self) (by simp)
  | x :: a, y :: b, ha, hb, h => by
    rw [List.pairwise_cons] at ha hb
    have e : x = y := by
      have h1 := (h x).1 List.mem_cons_self
      have h2 := (h y).2 List.mem_cons_self
      rcases List.mem_cons.1 h1 with h1 | h1
      · exact h1
      · rcases List.mem_cons.1 h2 with h2 | h2
        · exact h2.symm
        · have := ha.1 y h2
          have := hb.1 x h1
          omega
    subst e
    rw [strict_unique ha.2 hb.2 fun q => ?_]
    have := h q
    rw [List.mem_cons, List.mem_cons] at this
    constructor
    · intro hq
      rcases this.1 (.inr hq) with h1 | h1
      · subst h1; exact absurd (ha.1 _ hq) (Int.lt_irrefl _)
      · exact h1
    · intro hq
      rcases this.2 (.inr hq) with h1 | h1
      · subst h1; exact absurd (hb.1 _ hq) (Int.lt_irrefl _)
      · exact h1
theorem boundsE_strict (E : List (Int × Int)) : (boundsE E).Pairwise (· < ·) :=
  strict_of (sorted_leI _) ((List.mergeSort_perm _ _).nodup_iff.2 (onceI_both _).1)
theorem boundsE_mem (E : List (Int × Int)) (q : Int) : q ∈ boundsE E ↔ q = 0 ∨ q = 1000000 ∨ ∃ x ∈ E, q = x.1 ∨ q = x.2 := by
  unfold boundsE endsE
  rw [(List.mergeSort_perm _ _).mem_iff, (onceI_both _).2]
  simp
/-- a strictly increasing list of the bounds is the one. -/
theorem bounds_eq {E : List (Int × Int)} {bs : List Int} (h : bs.Pairwise (· < ·)) (hm : ∀ q, q ∈ bs ↔ q = 0 ∨ q = 1000000 ∨ ∃ x ∈ E, q = x.1 ∨ q = x.2) : bs = boundsE E :=
  strict_unique h (boundsE_strict E) fun q => by rw [hm, boundsE_mem]

theorem strict_get {l : List Int} (h : l.Pairwise (· < ·)) {i j : Nat} (hij : i < j) (hj : j < l.length) : l[i]'(by omega) < l[j] := List.pairwise_iff_getElem.1 h i j (by omega) hj hij
/-- the place of a number in a strict list. -/
theorem count_take {l : List Int} (h : l.Pairwise (· < ·)) {q : Int} (hq : q ∈ l) {k : Nat} (hk : k + 1 ≤ l.length) {p : Int} (h1 : l[k] ≤ p) (h2 : ∀ hk2 : k + 1 < l.length, p < l[k + 1]) :
    (l.take (k + 1)).countP (fun y => decide (q = y)) = if q ≤ p then 1 else 0 := by
  obtain ⟨i, hi, rfl⟩ := List.mem_iff_getElem.1 hq
  have hnd : (l.take (k + 1)).Nodup := (h.sublist (List.take_sublist _ _)).imp fun h => Int.ne_of_lt h
  have hcount : ∀ {m : List Int} (x : Int), m.Nodup → m.countP (fun y => decide (x = y)) = if x ∈ m then 1 else 0 := by
    intro m x hm
    induction m with
    | nil => rfl
    | cons a m ih =>
      rw [List.nodup_cons] at hm
      rw [List.countP_cons, ih hm.2]
      by_cases hxa : x = a
      · subst hxa; simp [hm.1]
      · simp [hxa]
  rw [hcount _ hnd]
  have hmem : l[i] ∈ l.take (k + 1) ↔ i ≤ k := by
    rw [List.mem_take_iff_getElem]
    constructor
    · rintro ⟨j, hj, he⟩
      rcases Nat.lt_trichotomy i j with h3 | h3 | h3
      · omega
      · omega
      · have := strict_get h h3 hi
        omega
    · intro hik
      exact ⟨i, by omega, rfl⟩
  by_cases hik : i ≤ k
  · rw [if_pos (hmem.2 hik), if_pos]
    rcases Nat.lt_or_eq_of_le hik with h3 | h3
    · have := strict_get h h3 (by omega : k < l.length)
      omega
    · subst h3; exact h1
  · rw [if_neg (fun hc => hik (hmem.1 hc)), if_neg]
    have h4 := h2 (by omega)
    rcases Nat.lt_or_eq_of_le (by omega : k + 1 ≤ i) with h3 | h3
    · have := strict_get h h3 hi
      omega
    · subst h3; omega
theorem chgE_cons (x : Int × Int) (E : List (Int × Int)) (q : Int) : chgE (x :: E) q = chgE E q + ((if x.1 = q then 1 else 0) - (if x.2 = q then 1 else 0)) := by
  unfold chgE
  rw [List.countP_cons, List.countP_cons]
  by_cases h1 : x.1 = q <;> by_cases h2 : x.2 = q <;> simp [h1, h2] <;> omega
theorem sum_ite (q : Int) (l : List Int) : (l.map fun y => if q = y then (1 : Int) else 0).sum = (l.countP fun y => decide (q = y) : Nat) := by
  induction l with
  | nil => rfl
  | cons a l ih =>
    rw [List.map_cons, List.sum_cons, ih, List.countP_cons]
    by_cases h : q = a <;> simp [h] <;> omega
theorem sum_chg_cons (x : Int × Int) (E : List (Int × Int)) (l : List Int) :
    (l.map (chgE (x :: E))).sum = (l.map (chgE E)).sum + ((l.countP fun y => decide (x.1 = y) : Nat) - (l.countP fun y => decide (x.2 = y) : Nat)) := by
  rw [← sum_ite, ← sum_ite]
  induction l with
  | nil => rfl
  | cons a l ih =>
    simp only [List.map_cons, List.sum_cons]
    rw [ih, chgE_cons]
    omega
theorem runC_cov : ∀ (E : List (Int × Int)) {bs : List Int} (_ : bs.Pairwise (· < ·)) (_ : ∀ x ∈ E, x.1 ∈ bs ∧ x.2 ∈ bs ∧ x.1 < x.2) {k : Nat} (hk : k + 1 ≤ bs.length) {p : Int} (_ : bs[k] ≤ p) (_ : ∀ hk2 : k + 1 < bs.length, p < bs[k + 1]),
    runC E bs (k + 1) = covE E p
  | [], bs, _, _, k, _, p, _, _ => by
    unfold runC covE
    have : ∀ l : List Int, (l.map (chgE [])).sum = 0 := fun l => by
      induction l with
      | nil => rfl
      | cons a l ih => rw [List.map_cons, List.sum_cons, ih]; rfl
    rw [this]
    rfl
  | x :: E, bs, hs, hx, k, hk, p, h1, h2 => by
    have ih := runC_cov E hs (fun y hy => hx y (List.mem_cons_of_mem _ hy)) hk h1 h2
    obtain ⟨a, b, c⟩ := hx x List.mem_cons_self
    unfold runC at ih ⊢
    rw [sum_chg_cons, ih, count_take hs a hk h1 h2, count_take hs b hk h1 h2]
    unfold covE
    rw [List.countP_cons]
    by_cases c1 : x.1 ≤ p <;> by_cases c2 : x.2 ≤ p
    · have : ¬ p < x.2 := by omega
      simp [c1, c2, this]
    · have : p < x.2 := by omega
      simp [c1, c2, this]
    · omega
    · have : p < x.2 := by omega
      simp [c1, c2]
theorem covE_append (a b : List (Int × Int)) (p : Int) : covE (a ++ b) p = covE a p + covE b p := List.countP_append
theorem covE_can : ∀ {l : List (Int × Int)} (_ : Can l) (p : Int), covE l p = if l.any (fun x => decide (x.1 ≤ p) && decide (p < x.2)) = true then 1 else 0
  | [], _, p => rfl
  | x :: l, h, p => by
    obtain ⟨h1, h2, h3⟩ := can_cons.1 h
    have ih := covE_can h3 p
    unfold covE at ih ⊢
    rw [List.countP_cons, ih, List.any_cons]
    by_cases hc : (decide (x.1 ≤ p) && decide (p < x.2)) = true
    · have hn : l.any (fun x => decide (x.1 ≤ p) && decide (p < x.2)) = false := by
        rw [List.any_eq_false]
        intro y hy hp
        rw [Bool.and_eq_true, decide_eq_true_eq, decide_eq_true_eq] at hc hp
        have := h2 y hy
        omega
      rw [hc, hn]
      rfl
    · have hc : (decide (x.1 ≤ p) && decide (p < x.2)) = false := by simpa using hc
      rw [hc, Bool.false_or]
      simp
theorem covE_spans (l : List (List (Int × Int))) (p : Int) : covE (spansOf l) p = cntIn l p := by
  induction l with
  | nil => rfl
  | cons s l ih =>
    unfold spansOf cntIn at *
    rw [List.flatMap_cons, covE_append, ih, List.countP_cons, covE_can (canon_can s)]
    have : ((canon s).any fun x => decide (x.1 ≤ p) && decide (p < x.2)) = hasB s p := by
      rw [Bool.eq_iff_iff, hasB_iff, ← canon_in]
      unfold InL
      simp only [List.any_eq_true, Bool.and_eq_true, decide_eq_true_eq]
    rw [this, Nat.add_comm]
theorem spansOf_mem {l : List (List (Int × Int))} {x : Int × Int} (h : x ∈ spansOf l) : 0 ≤ x.1 ∧ x.1 < x.2 ∧ x.2 ≤ 1000000 := by
  unfold spansOf at h
  rw [List.mem_flatMap] at h
  obtain ⟨s, _, hx⟩ := h
  exact (canon_can s).2 x hx
/-- between which bounds a place lies. -/
theorem between {bs : List Int} (hs : bs.Pairwise (· < ·)) {lo hi : Int} (hlo : lo ∈ bs) (hhi : hi ∈ bs) {p : Int} (h1 : lo ≤ p) (h2 : p < hi) : ∃ k, ∃ hk : k + 1 < bs.length, bs[k] ≤ p ∧ p < bs[k + 1] := by
  obtain ⟨i, hi', rfl⟩ := List.mem_iff_getElem.1 hlo
  obtain ⟨j, hj, rfl⟩ := List.mem_iff_getElem.1 hhi
  have hij : i < j := by
    rcases Nat.lt_trichotomy i j with h | h | h
    · exact h
    · subst h; omega
    · have := strict_get hs h hi'; omega
  have : ∀ d, ∀ i, (h : i + d = j) → (hi' : i < bs.length) → bs[i] ≤ p → ∃ k, ∃ hk : k + 1 < bs.length, bs[k] ≤ p ∧ p < bs[k + 1] := by
    intro d
    induction d with
    | zero => intro i h hi' hp; simp at h; subst h; omega
    | succ d ih =>
      intro i h hi' hp
      by_cases hn : p < bs[i + 1]'(by omega)
      · exact ⟨i, by omega, hp, hn⟩
      · exact ih (i + 1) (by omega) (by omega) (by omega)
  exact this (j - i) i (by omega) hi' h1
theorem outC_in (keep : Int → Bool) (E : List (Int × Int)) (hE : ∀ x ∈ E, 0 ≤ x.1 ∧ x.1 < x.2 ∧ x.2 ≤ 1000000) (p : Int) :
    InL (outC keep E (boundsE E) ((boundsE E).length - 1)) p ↔ keep (covE E p) = true ∧ 0 ≤ p ∧ p < 1000000 := by
  have hs := boundsE_strict E
  have hm := boundsE_mem E
  generalize boundsE E = bs at *
  have hx : ∀ x ∈ E, x.1 ∈ bs ∧ x.2 ∈ bs ∧ x.1 < x.2 := fun x hx => ⟨(hm _).2 (.inr (.inr ⟨x, hx, .inl rfl⟩)), (hm _).2 (.inr (.inr ⟨x, hx, .inr rfl⟩)), (hE x hx).2.1⟩
  have hb : ∀ q ∈ bs, 0 ≤ q ∧ q ≤ 1000000 := fun q hq => by
    rcases (hm q).1 hq with rfl | rfl | ⟨x, hx, rfl | rfl⟩
    · omega
    · omega
    · have := hE x hx; omega
    · have := hE x hx; omega
  have hg : ∀ i, (h : i < bs.length) → bs.getD i 0 = bs[i] := fun i h => by simp [h]
  unfold outC InL
  constructor
  · rintro ⟨x, hx', h1, h2⟩
    rw [List.mem_map] at hx'
    obtain ⟨i, hi, rfl⟩ := hx'
    rw [List.mem_filter, List.mem_range] at hi
    obtain ⟨hi, hk⟩ := hi
    simp only at h1 h2
    rw [hg i (by omega)] at h1
    rw [hg (i + 1) (by omega)] at h2
    rw [runC_cov E hs hx (by omega : i + 1 ≤ bs.length) h1 (fun _ => h2)] at hk
    have := hb _ (List.getElem_mem (by omega : i < bs.length))
    have := hb _ (List.getElem_mem (by omega : i + 1 < bs.length))
    exact ⟨hk, by omega, by omega⟩
  · rintro ⟨hk, h0, h1⟩
    obtain ⟨k, hk1, h2, h3⟩ := between hs ((hm 0).2 (.inl rfl)) ((hm 1000000).2 (.inr (.inl rfl))) h0 h1
    refine ⟨(bs.getD k 0, bs.getD (k + 1) 0), List.mem_map.2 ⟨k, List.mem_filter.2 ⟨List.mem_range.2 (by omega), ?_⟩, rfl⟩, ?_, ?_⟩
    · rw [runC_cov E hs hx (by omega : k + 1 ≤ bs.length) h2 (fun _ => h3)]
      exact hk
    · simp only; rw [hg k (by omega)]; exact h2
    · simp only; rw [hg (k + 1) (by omega)]; exact h3
theorem combS_can (keep : Int → Bool) (l : List (List (Int × Int))) : Can (combS keep l) := canon_can _
/-- which places combine gives. -/
theorem combS_in (keep : Int → Bool) (l : List (List (Int × Int))) (p : Int) : InL (combS keep l) p ↔ keep (cntIn l p) = true ∧ 0 ≤ p ∧ p < 1000000 := by
  unfold combS
  rw [canon_in, outC_in keep _ (fun x hx => spansOf_mem hx)]
  constructor
  · rintro ⟨⟨h1, h2, h3⟩, _⟩
    rw [covE_spans l p] at h1
    exact ⟨h1, h2, h3⟩
  · rintro ⟨h1, h2, h3⟩
    rw [covE_spans l p]
    exact ⟨⟨h1, h2, h3⟩, h2, h3⟩
end Go.Proofs.YtdhihdiifgcfdaaGreatDoor
