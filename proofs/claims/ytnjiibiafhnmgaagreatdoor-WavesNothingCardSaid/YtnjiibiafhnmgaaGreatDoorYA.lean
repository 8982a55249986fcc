/- Sets of places, plain: a canonical list is told by its members. Sets of places, plain: the places whose number of sets meets a condition. -/

namespace Go.Proofs.YtnjiibiafhnmgaaGreatDoor
set_option linter.unusedVariables false
set_option linter.unusedSimpArgs false

def InL (l : List (Int × Int)) (p : Int) : Prop := ∃ x ∈ l, x.1 ≤ p ∧ p < x.2
def Can (l : List (Int × Int)) : Prop := l.Pairwise (fun a b => a.2 < b.1) ∧ ∀ x ∈ l, 0 ≤ x.1 ∧ x.1 < x.2 ∧ x.2 ≤ 1000000
def clamp (x : Int × Int) : Int × Int := (max x.1 0, min x.2 1000000)
def clampS (s : List (Int × Int)) : List (Int × Int) := (s.map clamp).filter fun x => decide (x.1 < x.2)
def joinS (acc : List (Int × Int)) (x : Int × Int) : List (Int × Int) :=
  match acc.getLast? with
  | some y => if x.1 ≤ y.2 then acc.dropLast ++ [(y.1, max y.2 x.2)] else acc ++ [x]
  | none => [x]
def mergeS (l : List (Int × Int)) : List (Int × Int) := l.foldl joinS []
def leF (a b : Int × Int) : Bool := decide (a.1 ≤ b.1)
def canon (s : List (Int × Int)) : List (Int × Int) := mergeS ((clampS s).mergeSort leF)

theorem inL_nil (p : Int) : ¬ InL [] p := fun ⟨_, h, _⟩ => by cases h
theorem inL_cons (x : Int × Int) (l : List (Int × Int)) (p : Int) : InL (x :: l) p ↔ (x.1 ≤ p ∧ p < x.2) ∨ InL l p := by
  constructor
  · rintro ⟨y, hy, h⟩
    rcases List.mem_cons.1 hy with rfl | hy
    · exact .inl h
    · exact .inr ⟨y, hy, h⟩
  · rintro (h | ⟨y, hy, h⟩)
    · exact ⟨x, List.mem_cons_self, h⟩
    · exact ⟨y, List.mem_cons_of_mem _ hy, h⟩
theorem inL_append (a b : List (Int × Int)) (p : Int) : InL (a ++ b) p ↔ InL a p ∨ InL b p := by
  induction a with
  | nil => simp [inL_nil]
  | cons x a ih => rw [List.cons_append, inL_cons, inL_cons, ih, or_assoc]
theorem inL_one (x : Int × Int) (p : Int) : InL [x] p ↔ (x.1 ≤ p ∧ p < x.2) := by rw [inL_cons]; simp [inL_nil]
theorem inL_perm {a b : List (Int × Int)} (h : a.Perm b) (p : Int) : InL a p ↔ InL b p :=
  ⟨fun ⟨x, hx, hp⟩ => ⟨x, h.mem_iff.1 hx, hp⟩, fun ⟨x, hx, hp⟩ => ⟨x, h.mem_iff.2 hx, hp⟩⟩

theorem joinS_nil (x : Int × Int) : joinS [] x = [x] := rfl
theorem joinS_snoc (a : List (Int × Int)) (y x : Int × Int) : joinS (a ++ [y]) x = if x.1 ≤ y.2 then a ++ [(y.1, max y.2 x.2)] else a ++ [y] ++ [x] := by
  unfold joinS
  rw [List.getLast?_concat, List.dropLast_concat]
theorem can_nil : Can [] := ⟨List.Pairwise.nil, fun x h => by cases h⟩
theorem can_cons {x : Int × Int} {l : List (Int × Int)} : Can (x :: l) ↔ (0 ≤ x.1 ∧ x.1 < x.2 ∧ x.2 ≤ 1000000) ∧ (∀ y ∈ l, x.2 < y.1) ∧ Can l := by
  unfold Can
  rw [List.pairwise_cons]
  constructor
  · rintro ⟨⟨h1, h2⟩, h3⟩
    exact ⟨h3 x List.mem_cons_self, h1, h2, fun y hy => h3 y (List.mem_cons_of_mem _ hy)⟩
  · rintro ⟨h1, h2, h3, h4⟩
    refine ⟨⟨h2, h3⟩, fun y hy => ?_⟩
    rcases List.mem_cons.1 hy with rfl | hy
    · exact h1
    · exact h4 y hy
theorem can_snoc {x : Int × Int} {l : List (Int × Int)} : Can (l ++ [x]) ↔ Can l ∧ (∀ y ∈ l, y.2 < x.1) ∧ (0 ≤ x.1 ∧ x.1 < x.2 ∧ x.2 ≤ 1000000) := by
  unfold Can
  rw [List.pairwise_append]
  constructor
  · rintro ⟨⟨h1, _, h2⟩, h3⟩
    exact ⟨⟨h1, fun y hy => h3 y (List.mem_append_left _ hy)⟩, fun y hy => h2 y hy x (by simp), h3 x (by simp)⟩
  · rintro ⟨⟨h1, h2⟩, h3, h4⟩
    refine ⟨⟨h1, by simp, fun a ha b hb => ?_⟩, fun y hy => ?_⟩
    · rcases List.mem_singleton.1 hb with rfl
      exact h3 a ha
    · rcases List.mem_append.1 hy with hy | hy
      · exact h2 y hy
      · rcases List.mem_singleton.1 hy with rfl
        exact h4

theorem can_unique : ∀ {a b : List (Int × Int)}, Can a → Can b → (∀ p, InL a p ↔ InL b p) → a = b
  | [], [], _, _, _ => rfl
  | [], y :: b, _, hb, h => by
    have hy := (can_cons.1 hb).1
    exact absurd ((h y.1).2 ((inL_cons y b y.1).2 (.inl ⟨Int.le_refl _, hy.2.1⟩))) (inL_nil _)
  | x :: a, [], ha, _, h => by
    have hx := (can_cons.1 ha).1
    exact absurd ((h x.1).1 ((inL_cons x a x.1).2 (.inl ⟨Int.le_refl _, hx.2.1⟩))) (inL_nil _)
  | x :: a, y :: b, ha, hb, h => by
    obtain ⟨hx, hxa, ha'⟩ := can_cons.1 ha
    obtain ⟨hy, hyb, hb'⟩ := can_cons.1 hb
    have lowa : ∀ p, InL (x :: a) p → x.1 ≤ p := fun p hp => by
      rcases (inL_cons _ _ _).1 hp with hp | ⟨z, hz, hp⟩
      · exact hp.1
      · have := hxa z hz; omega
    have lowb : ∀ p, InL (y :: b) p → y.1 ≤ p := fun p hp => by
      rcases (inL_cons _ _ _).1 hp with hp | ⟨z, hz, hp⟩
      · exact hp.1
      · have := hyb z hz; omega
    have e1 : x.1 = y.1 := by
      have h1 := lowb x.1 ((h x.1).1 ((inL_cons _ _ _).2 (.inl ⟨Int.le_refl _, hx.2.1⟩)))
      have h2 := lowa y.1 ((h y.1).2 ((inL_cons _ _ _).2 (.inl ⟨Int.le_refl _, hy.2.1⟩)))
      omega
    have e2 : x.2 = y.2 := by
      rcases Int.lt_trichotomy x.2 y.2 with h1 | h1 | h1
      · exfalso
        have h2 := (h x.2).2 ((inL_cons _ _ _).2 (.inl ⟨by omega, h1⟩))
        rcases (inL_cons _ _ _).1 h2 with h3 | ⟨z, hz, h3⟩
        · omega
        · have := hxa z hz; omega
      · exact h1
      · exfalso
        have h2 := (h y.2).1 ((inL_cons _ _ _).2 (.inl ⟨by omega, h1⟩))
        rcases (inL_cons _ _ _).1 h2 with h3 | ⟨z, hz, h3⟩
        · omega
        · have := hyb z hz; omega
    have exy : x = y := Prod.ext e1 e2
    subst exy
    have : a = b := can_unique ha' hb' fun p => by
      have hp := h p
      rw [inL_cons, inL_cons] at hp
      constructor
      · intro hq
        have hn : ¬ (x.1 ≤ p ∧ p < x.2) := fun hc => by
          obtain ⟨z, hz, h3⟩ := hq
          have := hxa z hz; omega
        exact (hp.1 (.inr hq)).resolve_left hn
      · intro hq
        have hn : ¬ (x.1 ≤ p ∧ p < x.2) := fun hc => by
          obtain ⟨z, hz, h3⟩ := hq
          have := hyb z hz; omega
        exact (hp.2 (.inr hq)).resolve_left hn
    rw [this]

theorem join_can (acc : List (Int × Int)) (x : Int × Int) (h : Can acc) (hx : 0 ≤ x.1 ∧ x.1 < x.2 ∧ x.2 ≤ 1000000) (hle : ∀ y ∈ acc, y.1 ≤ x.1) :
    Can (joinS acc x) ∧ (∀ p, InL (joinS acc x) p ↔ InL acc p ∨ (x.1 ≤ p ∧ p < x.2)) ∧ (∀ y ∈ joinS acc x, y.1 ≤ x.1) := by
  rcases List.eq_nil_or_concat acc with rfl | ⟨a, y, rfl⟩
  · rw [joinS_nil]
    exact ⟨can_cons.2 ⟨hx, (fun _ h => by cases h), can_nil⟩, fun p => by rw [inL_one]; simp [inL_nil], fun y hy => by rcases List.mem_singleton.1 hy with rfl; exact Int.le_refl _⟩
  · rw [List.concat_eq_append] at *
    rw [joinS_snoc]
    obtain ⟨ha, hya, hy⟩ := can_snoc.1 h
    have hyx := hle y (by simp)
    split
    · rename_i hc
      refine ⟨can_snoc.2 ⟨ha, hya, by simp only; omega⟩, fun p => ?_, fun z hz => ?_⟩
      · rw [inL_append, inL_append, inL_one, inL_one, or_assoc]
        refine or_congr_right ⟨fun hp => ?_, fun hp => ?_⟩ <;> simp only at hp ⊢ <;> omega
      · rcases List.mem_append.1 hz with hz | hz
        · exact hle z (by simp [hz])
        · rcases List.mem_singleton.1 hz with rfl
          exact hyx
    · rename_i hc
      refine ⟨can_snoc.2 ⟨h, fun z hz => ?_, hx⟩, fun p => by rw [inL_append _ [x], inL_one], fun z hz => ?_⟩
      · rcases List.mem_append.1 hz with hz | hz
        · have := hya z hz; omega
        · rcases List.mem_singleton.1 hz with rfl
          omega
      · rcases List.mem_append.1 hz with hz | hz
        · exact hle z hz
        · rcases List.mem_singleton.1 hz with rfl
          exact Int.le_refl _
theorem foldl_can : ∀ (l acc : List (Int × Int)), Can acc → (∀ x ∈ l, 0 ≤ x.1 ∧ x.1 < x.2 ∧ x.2 ≤ 1000000) → l.Pairwise (fun a b => a.1 ≤ b.1) → (∀ y ∈ acc, ∀ x ∈ l, y.1 ≤ x.1) →
    Can (l.foldl joinS acc) ∧ ∀ p, InL (l.foldl joinS acc) p ↔ InL acc p ∨ InL l p
  | [], acc, h, _, _, _ => ⟨h, fun p => by simp [inL_nil]⟩
  | x :: l, acc, h, hx, hs, hle => by
    rw [List.pairwise_cons] at hs
    obtain ⟨h1, h2, h3⟩ := join_can acc x h (hx x List.mem_cons_self) fun y hy => hle y hy x List.mem_cons_self
    obtain ⟨h4, h5⟩ := foldl_can l (joinS acc x) h1 (fun y hy => hx y (List.mem_cons_of_mem _ hy)) hs.2 fun y hy z hz => Int.le_trans (h3 y hy) (hs.1 z hz)
    refine ⟨h4, fun p => ?_⟩
    rw [List.foldl_cons, h5, h2, inL_cons, or_assoc]
theorem merge_can {l : List (Int × Int)} (hx : ∀ x ∈ l, 0 ≤ x.1 ∧ x.1 < x.2 ∧ x.2 ≤ 1000000) (hs : l.Pairwise (fun a b => a.1 ≤ b.1)) : Can (mergeS l) ∧ ∀ p, InL (mergeS l) p ↔ InL l p := by
  obtain ⟨h1, h2⟩ := foldl_can l [] can_nil hx hs (fun y hy => by cases hy)
  exact ⟨h1, fun p => by unfold mergeS; rw [h2]; simp [inL_nil]⟩
theorem clampS_mem {s : List (Int × Int)} {x : Int × Int} (h : x ∈ clampS s) : 0 ≤ x.1 ∧ x.1 < x.2 ∧ x.2 ≤ 1000000 := by
  unfold clampS at h
  rw [List.mem_filter, List.mem_map] at h
  obtain ⟨⟨y, _, rfl⟩, h2⟩ := h
  unfold clamp at *
  have := of_decide_eq_true h2
  simp only at *
  omega
theorem leF_total (a b : Int × Int) : (leF a b || leF b a) = true := by
  unfold leF
  rw [Bool.or_eq_true, decide_eq_true_eq, decide_eq_true_eq]
  omega
theorem leF_trans (a b c : Int × Int) (h1 : leF a b = true) (h2 : leF b c = true) : leF a c = true := by
  unfold leF at *
  rw [decide_eq_true_eq] at *
  omega
theorem sorted_leF (l : List (Int × Int)) : (l.mergeSort leF).Pairwise (fun a b => a.1 ≤ b.1) :=
  (List.pairwise_mergeSort leF_trans (fun a b => leF_total a b) l).imp fun h => of_decide_eq_true h
theorem canon_both (s : List (Int × Int)) : Can (canon s) ∧ ∀ p, InL (canon s) p ↔ InL (clampS s) p := by
  obtain ⟨h1, h2⟩ := merge_can (l := (clampS s).mergeSort leF) (fun x hx => clampS_mem ((List.mergeSort_perm _ _).mem_iff.1 hx)) (sorted_leF _)
  exact ⟨h1, fun p => by unfold canon; rw [h2, inL_perm (List.mergeSort_perm _ _)]⟩
theorem canon_can (s : List (Int × Int)) : Can (canon s) := (canon_both s).1
theorem merge_canon {s l : List (Int × Int)} (h : l.Perm (clampS s)) (hs : l.Pairwise (fun a b => a.1 ≤ b.1)) : mergeS l = canon s := by
  obtain ⟨h1, h2⟩ := merge_can (l := l) (fun x hx => clampS_mem (h.mem_iff.1 hx)) hs
  exact can_unique h1 (canon_can s) fun p => by rw [h2, inL_perm h, (canon_both s).2]
theorem join_len (acc : List (Int × Int)) (x : Int × Int) : (joinS acc x).length ≤ acc.length + 1 ∧ 0 < (joinS acc x).length := by
  rcases List.eq_nil_or_concat acc with rfl | ⟨a, y, rfl⟩
  · rw [joinS_nil]; simp
  · rw [List.concat_eq_append, joinS_snoc]
    split <;> simp
theorem foldl_len : ∀ (l acc : List (Int × Int)), (l.foldl joinS acc).length ≤ acc.length + l.length
  | [], acc => by simp
  | x :: l, acc => by
    rw [List.foldl_cons]
    have := foldl_len l (joinS acc x)
    have := (join_len acc x).1
    simp only [List.length_cons]
    omega
theorem clampS_len (s : List (Int × Int)) : (clampS s).length ≤ s.length := by
  unfold clampS
  have := List.length_filter_le (fun x : Int × Int => decide (x.1 < x.2)) (s.map clamp)
  rw [List.length_map] at this
  exact this
theorem canon_len (s : List (Int × Int)) : (canon s).length ≤ s.length := by
  unfold canon mergeS
  have := foldl_len ((clampS s).mergeSort leF) []
  have := clampS_len s
  rw [List.length_mergeSort] at *
  simp only [List.length_nil] at *
  omega
end Go.Proofs.YtnjiibiafhnmgaaGreatDoor

namespace Go.Proofs.YtnjiibiafhnmgaaGreatDoor
set_option linter.unusedVariables false
set_option linter.unusedSimpArgs false

def hasB (s : List (Int × Int)) (p : Int) : Bool := (decide (0 ≤ p) && decide (p < 1000000)) && s.any fun x => decide (x.1 ≤ p) && decide (p < x.2)
def cntIn (l : List (List (Int × Int))) (p : Int) : Nat := l.countP fun s => hasB s p
def chgE (E : List (Int × Int)) (q : Int) : Int := (E.countP fun x => decide (x.1 = q) : Nat) - (E.countP fun x => decide (x.2 = q) : Nat)
def covE (E : List (Int × Int)) (p : Int) : Nat := E.countP fun x => decide (x.1 ≤ p) && decide (p < x.2)
def runC (E : List (Int × Int)) (bs : List Int) (k : Nat) : Int := ((bs.take k).map (chgE E)).sum
def outC (keep : Int → Bool) (E : List (Int × Int)) (bs : List Int) (k : Nat) : List (Int × Int) :=
  ((List.range k).filter fun i => keep (runC E bs (i + 1))).map fun i => (bs.getD i 0, bs.getD (i + 1) 0)
def spansOf (l : List (List (Int × Int))) : List (Int × Int) := l.flatMap canon
def onceI : List Int → List Int
  | [] => []
  | a :: l => if a ∈ onceI l then onceI l else a :: onceI l
def endsE (E : List (Int × Int)) : List Int := E.flatMap fun x => [x.1, x.2]
def leI (a b : Int) : Bool := decide (a ≤ b)
def boundsE (E : List (Int × Int)) : List Int := (onceI (0 :: 1000000 :: endsE E)).mergeSort leI
def combS (keep : Int → Bool) (l : List (List (Int × Int))) : List (Int × Int) :=
  canon (outC keep (spansOf l) (boundsE (spansOf l)) ((boundsE (spansOf l)).length - 1))

end Go.Proofs.YtnjiibiafhnmgaaGreatDoor
