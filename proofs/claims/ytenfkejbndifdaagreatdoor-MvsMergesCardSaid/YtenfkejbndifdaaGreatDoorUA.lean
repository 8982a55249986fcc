/- Sets of places, plain: a canonical list is told by its members. Sets of places, plain: the places whose number of sets meets a condition. -/
import Derived.Test.YtenfkejbndifdaaGreatDoorProg
import Derived.WalkKit
import Derived.WalkSpells
import Derived.WalkLawsBesides
import Derived.BigQuiet
import Derived.Deep.QuietTactic
import Derived.Deep.DrawnRows
import Derived.Lib.Hide
import Derived.Lib.Strings
import Derived.Lib.IndexBytes
import Derived.Lib.IndexMore
namespace Go.Proofs.YtenfkejbndifdaaGreatDoor
set_option linter.unusedVariables false
set_option linter.unusedSimpArgs false

def InL (l : List (Int × Int)) (p : Int) : Prop := ∃ x ∈ l, x.1 ≤ p ∧ p < x.2
def Can (l : List (Int × Int)) : Prop := l.Pairwise (fun a b => a.2 < b.1) ∧ ∀ x ∈ l, 0 ≤ x.1 ∧ x.1 < x.2 ∧ x.2 ≤ 1000000
def clamp (x : Int × Int) : Int × Int := (max x.1 0, min x.2 1000000)
def clampS (s : List (Int × Int)) : List (Int × Int) := (s.map clamp).filter fun x => decide (x.1 < x.2)
def joinS (acc : List (Int × Int)) (x : Int × Int) : List (Int × Int) :=
  match acc.getLast? with
  | some y => if x.1 ≤ y.2 then acc.dropLast ++ [(y.1, max y.2 x.2)] else acc ++ [x]
  | none => [x]
def mergeS (l : List (Int × Int)) : List (Int × Int) := l.foldl joinS []
def leF (a b : Int × Int) : Bool := decide (a.1 ≤ b.1)
def canon (s : List (Int × Int)) : List (Int × Int) := mergeS ((clampS s).mergeSort leF)

theorem inL_nil (p : Int) : ¬ InL [] p := fun ⟨_, h, _⟩ => by cases h
theorem inL_cons (x : Int × Int) (l : List (Int × Int)) (p : Int) : InL (x :: l) p ↔ (x.1 ≤ p ∧ p < x.2) ∨ InL l p := by
  constructor
  · rintro ⟨y, hy, h⟩
    rcases List.mem_cons.1 hy with rfl | hy
    · exact .inl h
    · exact .inr ⟨y, hy, h⟩
  · rintro (h | ⟨y, hy, h⟩)
    · exact ⟨x, List.mem_cons_self, h⟩
    · exact ⟨y, List.mem_cons_of_mem _ hy, h⟩
theorem inL_append (a b : List (Int × Int)) (p : Int) : InL (a ++ b) p ↔ InL a p ∨ InL b p := by
  induction a with
  | nil => simp [inL_nil]
  | cons x a ih => rw [List.cons_append, inL_cons, inL_cons, ih, or_assoc]
theorem inL_one (x : Int × Int) (p : Int) : InL [x] p ↔ (x.1 ≤ p ∧ p < x.2) := by rw [inL_cons]; simp [inL_nil]
theorem inL_perm {a b : List (Int × Int)} (h : a.Perm b) (p : Int) : InL a p ↔ InL b p :=
  ⟨fun ⟨x, hx, hp⟩ => ⟨x, h.mem_iff.1 hx, hp⟩, fun ⟨x, hx, hp⟩ => ⟨x, h.mem_iff.2 hx, hp⟩⟩

theorem joinS_nil (x : Int × Int) : joinS [] x = [x] := rfl
theorem joinS_snoc (a : List (Int × Int)) (y x : Int × Int) : joinS (a ++ [y]) x = if x.1 ≤ y.2 then a ++ [(y.1, max y.2 x.2)] else a ++ [y] ++ [x] := by
  unfold joinS
  rw [List.getLast?_concat, List.dropLast_concat]
theorem can_nil : Can [] := ⟨List.Pairwise.nil, fun x h => by cases h⟩
theorem can_cons {x : Int × Int} {l : List (Int × Int)} : Can (x :: l) ↔ (0 ≤ x.1 ∧ x.1 < x.2 ∧ x.2 ≤ 1000000) ∧ (∀ y ∈ l, x.2 < y.1) ∧ Can l := by
  unfold Can
  rw [List.pairwise_cons]
  constructor
  · rintro ⟨⟨h1, h2⟩, h3⟩
    exact ⟨h3 x List.mem_cons_self, h1, h2, fun y hy => h3 y (List.mem_cons_of_mem _ hy)⟩
  · rintro ⟨h1, h2, h3, h4⟩
    refine ⟨⟨h2, h3⟩, fun y hy => ?_⟩
    rcases List.mem_cons.1 hy with rfl | hy
    · exact h1
    · exact h4 y hy
theorem can_snoc {x : Int × Int} {l : List (Int × Int)} : Can (l ++ [x]) ↔ Can l ∧ (∀ y ∈ l, y.2 < x.1) ∧ (0 ≤ x.1 ∧ x.1 < x.2 ∧ x.2 ≤ 1000000) := by
  unfold Can
  rw [List.pairwise_append]
  constructor
  · rintro ⟨⟨h1, _, h2⟩, h3⟩
    exact ⟨⟨h1, fun y hy => h3 y (List.mem_append_left _ hy)⟩, fun y hy => h2 y hy x (by simp), h3 x (by simp)⟩
  · rintro ⟨⟨h1, h2⟩, h3, h4⟩
    refine ⟨⟨h1, by simp, fun a ha b hb => ?_⟩, fun y hy => ?_⟩
    · rcases List.mem_singleton.1 hb with rfl
      exact h3 a ha
    · rcases List.mem_append.1 hy with hy | hy
      · exact h2 y hy
      · rcases List.mem_singleton.1 hy with rfl
        exact h4

theorem can_unique : ∀ {a b : List (Int × Int)}, Can a → Can b → (∀ p, InL a p ↔ InL b p) → a = b
  | [], [], _, _, _ => rfl
  | [], y :: b, _, hb, h => by
    have hy := (can_cons.1 hb).1
    exact absurd ((h y.1).2 ((inL_cons y b y.1).2 (.inl ⟨Int.le_refl _, hy.2.1⟩))) (inL_nil _)
  | x :: a, [], ha, _, h => by
    have hx := (can_cons.1 ha).1
    exact absurd ((h x.1).1 ((inL_cons x a x.1).2 (.inl ⟨Int.le_refl _, hx.2.1⟩))) (inL_nil _)
  | x :: a, y :: b, ha, hb, h => by
    obtain ⟨hx, hxa, ha'⟩ := can_cons.1 ha
    obtain ⟨hy, hyb, hb'⟩ := can_cons.1 hb
    have lowa : ∀ p, InL (x :: a) p → x.1 ≤ p := fun p hp => by
      rcases (inL_cons _ _ _).1 hp with hp | ⟨z, hz, hp⟩
      · exact hp.1
      · have := hxa z hz; omega
    have lowb : ∀ p, InL (y :: b) p → y.1 ≤ p := fun p hp => by
      rcases (inL_cons _ _ _).1 hp with hp | ⟨z, hz, hp⟩
      · exact hp.1
      · have := hyb z hz; omega
    have e1 : x.1 = y.1 := by
      have h1 := lowb x.1 ((h x.1).1 ((inL_cons _ _ _).2 (.inl ⟨Int.le_refl _, hx.2.1⟩)))
      have h2 := lowa y.1 ((h y.1).2 ((inL_cons _ _ _).2 (.inl ⟨Int.le_refl _, hy.2.1⟩)))
      omega
    have e2 : x.2 = y.2 := by
      rcases Int.lt_trichotomy x.2 y.2 with h1 | h1 | h1
      · exfalso
        have h2 := (h x.2).2 ((inL_cons _ _ _).2 (.inl ⟨by omega, h1⟩))
        rcases (inL_cons _ _ _).1 h2 with h3 | ⟨z, hz, h3⟩
        · omega
        · have := hxa z hz; omega
      · exact h1
      · exfalso
        have h2 := (h y.2).1 ((inL_cons _ _ _).2 (.inl ⟨by omega, h1⟩))
        rcases (inL_cons _ _ _).1 h2 with h3 | ⟨z, hz, h3⟩
        · omega
        · have := hyb z hz; omega
    have exy : x = y := Prod.ext e1 e2
    subst exy
    have : a = b := can_unique ha' hb' fun p => by
      have hp := h p
      rw [inL_cons, inL_cons] at hp
      constructor
      · intro hq
        have hn : ¬ (x.1 ≤ p ∧ p < x.2) := fun hc => by
          obtain ⟨z, hz, h3⟩ := hq
          have := hxa z hz; omega
        exact (hp.1 (.inr hq)).resolve_left hn
      · intro hq
        have hn : ¬ (x.1 ≤ p ∧ p < x.2) := fun hc => by
          obtain ⟨z, hz, h3⟩ := hq
          have := hyb z hz; omega
        exact (hp.2 (.inr hq)).resolve_left hn
    rw [this]

theorem join_can (acc : List (Int × Int)) (x : Int × Int) (h : Can acc) (hx : 0 ≤ x.1 ∧ x.1 < x.2 ∧ x.2 ≤ 1000000) (hle : ∀ y ∈ acc, y.1 ≤ x.1) :
    Can (joinS acc x) ∧ (∀ p, InL (joinS acc x) p ↔ InL acc p ∨ (x.1 ≤ p ∧ p < x.2)) ∧ (∀ y ∈ joinS acc x, y.1 ≤ x.1) := by
  rcases List.eq_nil_or_concat acc with rfl | ⟨a, y, rfl⟩
  · rw [joinS_nil]
    exact ⟨can_cons.2 ⟨hx, (fun _ h => by cases h), can_nil⟩, fun p => by rw [inL_one]; simp [inL_nil], fun y hy => by rcases List.mem_singleton.1 hy with rfl; exact Int.le_refl _⟩
  · rw [List.concat_eq_append] at *
    rw [joinS_snoc]
    obtain ⟨ha, hya, hy⟩ := can_snoc.1 h
    have hyx := hle y (by simp)
    split
    · rename_i hc
      refine ⟨can_snoc.2 ⟨ha, hya, by simp only; omega⟩, fun p => ?_, fun z hz => ?_⟩
      · rw [inL_append, inL_append, inL_one, inL_one, or_assoc]
        refine or_congr_right ⟨fun hp => ?_, fun hp => ?_⟩ <;> simp only at hp ⊢ <;> omega
      · rcases List.mem_append.1 hz with hz | hz
        · exact hle z (by simp [hz])
        · rcases List.mem_singleton.1 hz with rfl
          exact hyx
    · rename_i hc
      refine ⟨can_snoc.2 ⟨h, fun z hz => ?_, hx⟩, fun p => by rw [inL_append _ [x], inL_one], fun z hz => ?_⟩
      · rcases List.mem_append.1 hz with hz | hz
        · have := hya z hz; omega
        · rcases List.mem_singleton.1 hz with rfl
          omega
      · rcases List.mem_append.1 hz with hz | hz
        · exact hle z hz
        · rcases List.mem_singleton.1 hz with rfl
          exact Int.le_refl _
theorem foldl_can : ∀ (l acc : List (Int × Int)), Can acc → (∀ x ∈ l, 0 ≤ x.1 ∧ x.1 < x.2 ∧ x.2 ≤ 1000000) → l.Pairwise (fun a b => a.1 ≤ b.1) → (∀ y ∈ acc, ∀ x ∈ l, y.1 ≤ x.1) →
    Can (l.foldl joinS acc) ∧ ∀ p, InL (l.foldl joinS acc) p ↔ InL acc p ∨ InL l p
  | [], acc, h, _, _, _ => ⟨h, fun p => by simp [inL_nil]⟩
  | x :: l, acc, h, hx, hs, hle => by
    rw [List.pairwise_cons] at hs
    obtain ⟨h1, h2, h3⟩ := join_can acc x h (hx x List.mem_cons_self) fun y hy => hle y hy x List.mem_cons_self
    obtain ⟨h4, h5⟩ := foldl_can l (joinS acc x) h1 (fun y hy => hx y (List.mem_cons_of_mem _ hy)) hs.2 fun y hy z hz => Int.le_trans (h3 y hy) (hs.1 z hz)
    refine ⟨h4, fun p => ?_⟩
    rw [List.foldl_cons, h5, h2, inL_cons, or_assoc]
theorem merge_can {l : List (Int × Int)} (hx : ∀ x ∈ l, 0 ≤ x.1 ∧ x.1 < x.2 ∧ x.2 ≤ 1000000) (hs : l.Pairwise (fun a b => a.1 ≤ b.1)) : Can (mergeS l) ∧ ∀ p, InL (mergeS l) p ↔ InL l p := by
  obtain ⟨h1, h2⟩ := foldl_can l [] can_nil hx hs (fun y hy => by cases hy)
  exact ⟨h1, fun p => by unfold mergeS; rw [h2]; simp [inL_nil]⟩
theorem clampS_mem {s : List (Int × Int)} {x : Int × Int} (h : x ∈ clampS s) : 0 ≤ x.1 ∧ x.1 < x.2 ∧ x.2 ≤ 1000000 := by
  unfold clampS at h
  rw [List.mem_filter, List.mem_map] at h
  obtain ⟨⟨y, _, rfl⟩, h2⟩ := h
  unfold clamp at *
  have := of_decide_eq_true h2
  simp only at *
  omega
theorem clampS_in (s : List (Int × Int)) (p : Int) : InL (clampS s) p ↔ InL s p ∧ 0 ≤ p ∧ p < 1000000 := by
  constructor
  · rintro ⟨x, hx, hp⟩
    have hb := clampS_mem hx
    unfold clampS at hx
    rw [List.mem_filter, List.mem_map] at hx
    obtain ⟨⟨y, hy, rfl⟩, _⟩ := hx
    unfold clamp at *
    simp only at *
    exact ⟨⟨y, hy, by omega⟩, by omega⟩
  · rintro ⟨⟨x, hx, hp⟩, h1, h2⟩
    refine ⟨clamp x, ?_, ?_⟩
    · unfold clampS
      rw [List.mem_filter]
      refine ⟨List.mem_map_of_mem hx, decide_eq_true ?_⟩
      unfold clamp
      simp only
      omega
    · unfold clamp
      simp only
      omega
theorem leF_total (a b : Int × Int) : (leF a b || leF b a) = true := by
  unfold leF
  rw [Bool.or_eq_true, decide_eq_true_eq, decide_eq_true_eq]
  omega
theorem leF_trans (a b c : Int × Int) (h1 : leF a b = true) (h2 : leF b c = true) : leF a c = true := by
  unfold leF at *
  rw [decide_eq_true_eq] at *
  omega
theorem sorted_leF (l : List (Int × Int)) : (l.mergeSort leF).Pairwise (fun a b => a.1 ≤ b.1) :=
  (List.pairwise_mergeSort leF_trans (fun a b => leF_total a b) l).imp fun h => of_decide_eq_true h
theorem canon_both (s : List (Int × Int)) : Can (canon s) ∧ ∀ p, InL (canon s) p ↔ InL (clampS s) p := by
  obtain ⟨h1, h2⟩ := merge_can (l := (clampS s).mergeSort leF) (fun x hx => clampS_mem ((List.mergeSort_perm _ _).mem_iff.1 hx)) (sorted_leF _)
  exact ⟨h1, fun p => by unfold canon; rw [h2, inL_perm (List.mergeSort_perm _ _)]⟩
theorem canon_can (s : List (Int × Int)) : Can (canon s) := (canon_both s).1
theorem canon_in (s : List (Int × Int)) (p : Int) : InL (canon s) p ↔ InL s p ∧ 0 ≤ p ∧ p < 1000000 := by rw [(canon_both s).2, clampS_in]
theorem merge_canon {s l : List (Int × Int)} (h : l.Perm (clampS s)) (hs : l.Pairwise (fun a b => a.1 ≤ b.1)) : mergeS l = canon s := by
  obtain ⟨h1, h2⟩ := merge_can (l := l) (fun x hx => clampS_mem (h.mem_iff.1 hx)) hs
  exact can_unique h1 (canon_can s) fun p => by rw [h2, inL_perm h, (canon_both s).2]
theorem can_bound {l : List (Int × Int)} (h : Can l) {p : Int} (hp : InL l p) : 0 ≤ p ∧ p < 1000000 := by
  obtain ⟨x, hx, hp⟩ := hp
  have := h.2 x hx
  omega
theorem canon_of_can {l : List (Int × Int)} (h : Can l) : canon l = l :=
  can_unique (canon_can l) h fun p => by
    rw [canon_in]
    exact ⟨fun hp => hp.1, fun hp => ⟨hp, can_bound h hp⟩⟩
theorem join_len (acc : List (Int × Int)) (x : Int × Int) : (joinS acc x).length ≤ acc.length + 1 ∧ 0 < (joinS acc x).length := by
  rcases List.eq_nil_or_concat acc with rfl | ⟨a, y, rfl⟩
  · rw [joinS_nil]; simp
  · rw [List.concat_eq_append, joinS_snoc]
    split <;> simp
theorem foldl_len : ∀ (l acc : List (Int × Int)), (l.foldl joinS acc).length ≤ acc.length + l.length
  | [], acc => by simp
  | x :: l, acc => by
    rw [List.foldl_cons]
    have := foldl_len l (joinS acc x)
    have := (join_len acc x).1
    simp only [List.length_cons]
    omega
theorem clampS_len (s : List (Int × Int)) : (clampS s).length ≤ s.length := by
  unfold clampS
  have := List.length_filter_le (fun x : Int × Int => decide (x.1 < x.2)) (s.map clamp)
  rw [List.length_map] at this
  exact this
theorem canon_len (s : List (Int × Int)) : (canon s).length ≤ s.length := by
  unfold canon mergeS
  have := foldl_len ((clampS s).mergeSort leF) []
  have := clampS_len s
  rw [List.length_mergeSort] at *
  simp only [List.length_nil] at *
  omega
end Go.Proofs.YtenfkejbndifdaaGreatDoor

namespace Go.Proofs.YtenfkejbndifdaaGreatDoor
set_option linter.unusedVariables false
set_option linter.unusedSimpArgs false

def hasB (s : List (Int × Int)) (p : Int) : Bool := (decide (0 ≤ p) && decide (p < 1000000)) && s.any fun x => decide (x.1 ≤ p) && decide (p < x.2)
theorem hasB_iff (s : List (Int × Int)) (p : Int) : hasB s p = true ↔ InL s p ∧ 0 ≤ p ∧ p < 1000000 := by
  unfold hasB InL
  simp only [Bool.and_eq_true, decide_eq_true_eq, List.any_eq_true]
  constructor
  · rintro ⟨⟨h1, h2⟩, x, hx, h3⟩
    exact ⟨⟨x, hx, h3⟩, h1, h2⟩
  · rintro ⟨⟨x, hx, h3⟩, h1, h2⟩
    exact ⟨⟨h1, h2⟩, x, hx, h3⟩
def cntIn (l : List (List (Int × Int))) (p : Int) : Nat := l.countP fun s => hasB s p
def chgE (E : List (Int × Int)) (q : Int) : Int := (E.countP fun x => decide (x.1 = q) : Nat) - (E.countP fun x => decide (x.2 = q) : Nat)
def covE (E : List (Int × Int)) (p : Int) : Nat := E.countP fun x => decide (x.1 ≤ p) && decide (p < x.2)
def runC (E : List (Int × Int)) (bs : List Int) (k : Nat) : Int := ((bs.take k).map (chgE E)).sum
def outC (keep : Int → Bool) (E : List (Int × Int)) (bs : List Int) (k : Nat) : List (Int × Int) :=
  ((List.range k).filter fun i => keep (runC E bs (i + 1))).map fun i => (bs.getD i 0, bs.getD (i + 1) 0)
def spansOf (l : List (List (Int × Int))) : List (Int × Int) := l.flatMap canon
def onceI : List Int → List Int
  | [] => []
  | a :: l => if a ∈ onceI l then onceI l else a :: onceI l
theorem onceI_both : ∀ l : List Int, (onceI l).Nodup ∧ ∀ q, q ∈ onceI l ↔ q ∈ l
  | [] => ⟨List.nodup_nil, fun q => Iff.rfl⟩
  | a :: l => by
    obtain ⟨h1, h2⟩ := onceI_both l
    unfold onceI
    split
    · rename_i h
      refine ⟨h1, fun q => ?_⟩
      rw [List.mem_cons, h2]
      exact ⟨.inr, fun h3 => h3.elim (fun e => by rw [e]; exact (h2 a).1 h) id⟩
    · rename_i h
      exact ⟨List.nodup_cons.2 ⟨h, h1⟩, fun q => by rw [List.mem_cons, List.mem_cons, h2]⟩
def endsE (E : List (Int × Int)) : List Int := E.flatMap fun x => [x.1, x.2]
def leI (a b : Int) : Bool := decide (a ≤ b)
def boundsE (E : List (Int × Int)) : List Int := (onceI (0 :: 1000000 :: endsE E)).mergeSort leI
def combS (keep : Int → Bool) (l : List (List (Int × Int))) : List (Int × Int) :=
  canon (outC keep (spansOf l) (boundsE (spansOf l)) ((boundsE (spansOf l)).length - 1))

theorem runC_succ (E : List (Int × Int)) (bs : List Int) (k : Nat) (h : k < bs.length) : runC E bs (k + 1) = runC E bs k + chgE E bs[k] := by
  unfold runC
  rw [List.take_succ_eq_append_getElem h, List.map_append, List.sum_append]
  simp
theorem outC_succ (keep : Int → Bool) (E : List (Int × Int)) (bs : List Int) (k : Nat) :
    outC keep E bs (k + 1) = if keep (runC E bs (k + 1)) = true then outC keep E bs k ++ [(bs.getD k 0, bs.getD (k + 1) 0)] else outC keep E bs k := by
  unfold outC
  rw [List.range_succ, List.filter_append, List.map_append]
  by_cases h : keep (runC E bs (k + 1)) = true <;> simp [h]
theorem outC_len (keep : Int → Bool) (E : List (Int × Int)) (bs : List Int) (k : Nat) : (outC keep E bs k).length ≤ k := by
  unfold outC
  rw [List.length_map]
  have := List.length_filter_le (fun i => keep (runC E bs (i + 1))) (List.range k)
  rwa [List.length_range] at this

theorem leI_total (a b : Int) : (leI a b || leI b a) = true := by
  unfold leI
  rw [Bool.or_eq_true, decide_eq_true_eq, decide_eq_true_eq]
  omega
theorem leI_trans (a b c : Int) (h1 : leI a b = true) (h2 : leI b c = true) : leI a c = true := by
  unfold leI at *
  rw [decide_eq_true_eq] at *
  omega
theorem sorted_leI (l : List Int) : (l.mergeSort leI).Pairwise (· ≤ ·) := (List.pairwise_mergeSort leI_trans (fun a b => leI_total a b) l).imp fun h => of_decide_eq_true h
theorem strict_of {l : List Int} (h : l.Pairwise (· ≤ ·)) (hn : l.Nodup) : l.Pairwise (· < ·) := by
  refine (List.pairwise_and_iff.2 ⟨h, hn⟩).imp ?_
  rintro a b ⟨h1, h2⟩
  have : a ≠ b := h2
  omega
theorem strict_unique : ∀ {a b : List Int}, a.Pairwise (· < ·) → b.Pairwise (· < ·) → (∀ q, q ∈ a ↔ q ∈ b) → a = b
  | [], [], _, _, _ => rfl
  | [], y :: b, _, _, h => absurd ((h y).2 List.mem_cons_self) (by simp)
  | x :: a, [], _, _, h => absurd ((h x).1 List.mem_cons_self) (by simp)
  | x :: a, y :: b, ha, hb, h => by
    rw [List.pairwise_cons] at ha hb
    have e : x = y := by
      have h1 := (h x).1 List.mem_cons_self
      have h2 := (h y).2 List.mem_cons_self
      rcases List.mem_cons.1 h1 with h1 | h1
      · exact h1
      · rcases List.mem_cons.1 h2 with h2 | h2
        · exact h2.symm
        · have := ha.1 y h2
          have := hb.1 x h1
          omega
    subst e
    rw [strict_unique ha.2 hb.2 fun q => ?_]
    have := h q
    rw [List.mem_cons, List.mem_cons] at this
    constructor
    · intro hq
      rcases this.1 (.inr hq) with h1 | h1
      · subst h1; exact absurd (ha.1 _ hq) (Int.lt_irrefl _)
      · exact h1
    · intro hq
      rcases this.2 (.inr hq) with h1 | h1
      · subst h1; exact absurd (hb.1 _ hq) (Int.lt_irrefl _)
      · exact h1
theorem boundsE_strict (E : List (Int × Int)) : (boundsE E).Pairwise (· < ·) :=
  strict_of (sorted_leI _) ((List.mergeSort_perm _ _).nodup_iff.2 (onceI_both _).1)
theorem boundsE_mem (E : List (Int × Int)) (q : Int) : q ∈ boundsE E ↔ q = 0 ∨ q = 1000000 ∨ ∃ x ∈ E, q = x.1 ∨ q = x.2 := by
  unfold boundsE endsE
  rw [(List.mergeSort_perm _ _).mem_iff, (onceI_both _).2]
  simp
theorem bounds_eq {E : List (Int × Int)} {bs : List Int} (h : bs.Pairwise (· < ·)) (hm : ∀ q, q ∈ bs ↔ q = 0 ∨ q = 1000000 ∨ ∃ x ∈ E, q = x.1 ∨ q = x.2) : bs = boundsE E :=
  strict_unique h (boundsE_strict E) fun q => by rw [hm, boundsE_mem]

theorem strict_get {l : List Int} (h : l.Pairwise (· < ·)) {i j : Nat} (hij : i < j) (hj : j < l.length) : l[i]'(by omega) < l[j] := List.pairwise_iff_getElem.1 h i j (by omega) hj hij
theorem count_take {l : List Int} (h : l.Pairwise (· < ·)) {q : Int} (hq : q ∈ l) {k : Nat} (hk : k + 1 ≤ l.length) {p : Int} (h1 : l[k] ≤ p) (h2 : ∀ hk2 : k + 1 < l.length, p < l[k + 1]) :
    (l.take (k + 1)).countP (fun y => decide (q = y)) = if q ≤ p then 1 else 0 := by
  obtain ⟨i, hi, rfl⟩ := List.mem_iff_getElem.1 hq
  have hnd : (l.take (k + 1)).Nodup := (h.sublist (List.take_sublist _ _)).imp fun h => Int.ne_of_lt h
  have hcount : ∀ {m : List Int} (x : Int), m.Nodup → m.countP (fun y => decide (x = y)) = if x ∈ m then 1 else 0 := by
    intro m x hm
    induction m with
    | nil => rfl
    | cons a m ih =>
      rw [List.nodup_cons] at hm
      rw [List.countP_cons, ih hm.2]
      by_cases hxa : x = a
      · subst hxa; simp [hm.1]
      · simp [hxa]
  rw [hcount _ hnd]
  have hmem : l[i] ∈ l.take (k + 1) ↔ i ≤ k := by
    rw [List.mem_take_iff_getElem]
    constructor
    · rintro ⟨j, hj, he⟩
      rcases Nat.lt_trichotomy i j with h3 | h3 | h3
      · omega
      · omega
      · have := strict_get h h3 hi
        omega
    · intro hik
      exact ⟨i, by omega, rfl⟩
  by_cases hik : i ≤ k
  · rw [if_pos (hmem.2 hik), if_pos]
    rcases Nat.lt_or_eq_of_le hik with h3 | h3
    · have := strict_get h h3 (by omega : k < l.length)
      omega
    · subst h3; exact h1
  · rw [if_neg (fun hc => hik (hmem.1 hc)), if_neg]
    have h4 := h2 (by omega)
    rcases Nat.lt_or_eq_of_le (by omega : k + 1 ≤ i) with h3 | h3
    · have := strict_get h h3 hi
      omega
    · subst h3; omega
theorem chgE_cons (x : Int × Int) (E : List (Int × Int)) (q : Int) : chgE (x :: E) q = chgE E q + ((if x.1 = q then 1 else 0) - (if x.2 = q then 1 else 0)) := by
  unfold chgE
  rw [List.countP_cons, List.countP_cons]
  by_cases h1 : x.1 = q <;> by_cases h2 : x.2 = q <;> simp [h1, h2] <;> omega
theorem sum_ite (q : Int) (l : List Int) : (l.map fun y => if q = y then (1 : Int) else 0).sum = (l.countP fun y => decide (q = y) : Nat) := by
  induction l with
  | nil => rfl
  | cons a l ih =>
    rw [List.map_cons, List.sum_cons, ih, List.countP_cons]
    by_cases h : q = a <;> simp [h] <;> omega
theorem sum_chg_cons (x : Int × Int) (E : List (Int × Int)) (l : List Int) :
    (l.map (chgE (x :: E))).sum = (l.map (chgE E)).sum + ((l.countP fun y => decide (x.1 = y) : Nat) - (l.countP fun y => decide (x.2 = y) : Nat)) := by
  rw [← sum_ite, ← sum_ite]
  induction l with
  | nil => rfl
  | cons a l ih =>
    simp only [List.map_cons, List.sum_cons]
    rw [ih, chgE_cons]
    omega
theorem runC_cov : ∀ (E : List (Int × Int)) {bs : List Int} (_ : bs.Pairwise (· < ·)) (_ : ∀ x ∈ E, x.1 ∈ bs ∧ x.2 ∈ bs ∧ x.1 < x.2) {k : Nat} (hk : k + 1 ≤ bs.length) {p : Int} (_ : bs[k] ≤ p) (_ : ∀ hk2 : k + 1 < bs.length, p < bs[k + 1]),
    runC E bs (k + 1) = covE E p
  | [], bs, _, _, k, _, p, _, _ => by
    unfold runC covE
    have : ∀ l : List Int, (l.map (chgE [])).sum = 0 := fun l => by
      induction l with
      | nil => rfl
      | cons a l ih => rw [List.map_cons, List.sum_cons, ih]; rfl
    rw [this]
    rfl
  | x :: E, bs, hs, hx, k, hk, p, h1, h2 => by
    have ih := runC_cov E hs (fun y hy => hx y (List.mem_cons_of_mem _ hy)) hk h1 h2
    obtain ⟨a, b, c⟩ := hx x List.mem_cons_self
    unfold runC at ih ⊢
    rw [sum_chg_cons, ih, count_take hs a hk h1 h2, count_take hs b hk h1 h2]
    unfold covE
    rw [List.countP_cons]
    by_cases c1 : x.1 ≤ p <;> by_cases c2 : x.2 ≤ p
    · have : ¬ p < x.2 := by omega
      simp [c1, c2, this]
    · have : p < x.2 := by omega
      simp [c1, c2, this]
    · omega
    · have : p < x.2 := by omega
      simp [c1, c2]
theorem covE_append (a b : List (Int × Int)) (p : Int) : covE (a ++ b) p = covE a p + covE b p := List.countP_append
theorem covE_can : ∀ {l : List (Int × Int)} (_ : Can l) (p : Int), covE l p = if l.any (fun x => decide (x.1 ≤ p) && decide (p < x.2)) = true then 1 else 0
  | [], _, p => rfl
  | x :: l, h, p => by
    obtain ⟨h1, h2, h3⟩ := can_cons.1 h
    have ih := covE_can h3 p
    unfold covE at ih ⊢
    rw [List.countP_cons, ih, List.any_cons]
    by_cases hc : (decide (x.1 ≤ p) && decide (p < x.2)) = true
    · have hn : l.any (fun x => decide (x.1 ≤ p) && decide (p < x.2)) = false := by
        rw [List.any_eq_false]
        intro y hy hp
        rw [Bool.and_eq_true, decide_eq_true_eq, decide_eq_true_eq] at hc hp
        have := h2 y hy
        omega
      rw [hc, hn]
      rfl
    · have hc : (decide (x.1 ≤ p) && decide (p < x.2)) = false := by simpa using hc
      rw [hc, Bool.false_or]
      simp
theorem covE_spans (l : List (List (Int × Int))) (p : Int) : covE (spansOf l) p = cntIn l p := by
  induction l with
  | nil => rfl
  | cons s l ih =>
    unfold spansOf cntIn at *
    rw [List.flatMap_cons, covE_append, ih, List.countP_cons, covE_can (canon_can s)]
    have : ((canon s).any fun x => decide (x.1 ≤ p) && decide (p < x.2)) = hasB s p := by
      rw [Bool.eq_iff_iff, hasB_iff, ← canon_in]
      unfold InL
      simp only [List.any_eq_true, Bool.and_eq_true, decide_eq_true_eq]
    rw [this, Nat.add_comm]
theorem spansOf_mem {l : List (List (Int × Int))} {x : Int × Int} (h : x ∈ spansOf l) : 0 ≤ x.1 ∧ x.1 < x.2 ∧ x.2 ≤ 1000000 := by
  unfold spansOf at h
  rw [List.mem_flatMap] at h
  obtain ⟨s, _, hx⟩ := h
  exact (canon_can s).2 x hx
theorem between {bs : List Int} (hs : bs.Pairwise (· < ·)) {lo hi : Int} (hlo : lo ∈ bs) (hhi : hi ∈ bs) {p : Int} (h1 : lo ≤ p) (h2 : p < hi) : ∃ k, ∃ hk : k + 1 < bs.length, bs[k] ≤ p ∧ p < bs[k + 1] := by
  obtain ⟨i, hi', rfl⟩ := List.mem_iff_getElem.1 hlo
  obtain ⟨j, hj, rfl⟩ := List.mem_iff_getElem.1 hhi
  have hij : i < j := by
    rcases Nat.lt_trichotomy i j with h | h | h
    · exact h
    · subst h; omega
    · have := strict_get hs h hi'; omega
  have : ∀ d, ∀ i, (h : i + d = j) → (hi' : i < bs.length) → bs[i] ≤ p → ∃ k, ∃ hk : k + 1 < bs.length, bs[k] ≤ p ∧ p < bs[k + 1] := by
    intro d
    induction d with
    | zero => intro i h hi' hp; simp at h; subst h; omega
    | succ d ih =>
      intro i h hi' hp
      by_cases hn : p < bs[i + 1]'(by omega)
      · exact ⟨i, by omega, hp, hn⟩
      · exact ih (i + 1) (by omega) (by omega) (by omega)
  exact this (j - i) i (by omega) hi' h1
theorem outC_in (keep : Int → Bool) (E : List (Int × Int)) (hE : ∀ x ∈ E, 0 ≤ x.1 ∧ x.1 < x.2 ∧ x.2 ≤ 1000000) (p : Int) :
    InL (outC keep E (boundsE E) ((boundsE E).length - 1)) p ↔ keep (covE E p) = true ∧ 0 ≤ p ∧ p < 1000000 := by
  have hs := boundsE_strict E
  have hm := boundsE_mem E
  generalize boundsE E = bs at *
  have hx : ∀ x ∈ E, x.1 ∈ bs ∧ x.2 ∈ bs ∧ x.1 < x.2 := fun x hx => ⟨(hm _).2 (.inr (.inr ⟨x, hx, .inl rfl⟩)), (hm _).2 (.inr (.inr ⟨x, hx, .inr rfl⟩)), (hE x hx).2.1⟩
  have hb : ∀ q ∈ bs, 0 ≤ q ∧ q ≤ 1000000 := fun q hq => by
    rcases (hm q).1 hq with rfl | rfl | ⟨x, hx, rfl | rfl⟩
    · omega
    · omega
    · have := hE x hx; omega
    · have := hE x hx; omega
  have hg : ∀ i, (h : i < bs.length) → bs.getD i 0 = bs[i] := fun i h => by simp [h]
  unfold outC InL
  constructor
  · rintro ⟨x, hx', h1, h2⟩
    rw [List.mem_map] at hx'
    obtain ⟨i, hi, rfl⟩ := hx'
    rw [List.mem_filter, List.mem_range] at hi
    obtain ⟨hi, hk⟩ := hi
    simp only at h1 h2
    rw [hg i (by omega)] at h1
    rw [hg (i + 1) (by omega)] at h2
    rw [runC_cov E hs hx (by omega : i + 1 ≤ bs.length) h1 (fun _ => h2)] at hk
    have := hb _ (List.getElem_mem (by omega : i < bs.length))
    have := hb _ (List.getElem_mem (by omega : i + 1 < bs.length))
    exact ⟨hk, by omega, by omega⟩
  · rintro ⟨hk, h0, h1⟩
    obtain ⟨k, hk1, h2, h3⟩ := between hs ((hm 0).2 (.inl rfl)) ((hm 1000000).2 (.inr (.inl rfl))) h0 h1
    refine ⟨(bs.getD k 0, bs.getD (k + 1) 0), List.mem_map.2 ⟨k, List.mem_filter.2 ⟨List.mem_range.2 (by omega), ?_⟩, rfl⟩, ?_, ?_⟩
    · rw [runC_cov E hs hx (by omega : k + 1 ≤ bs.length) h2 (fun _ => h3)]
      exact hk
    · simp only; rw [hg k (by omega)]; exact h2
    · simp only; rw [hg (k + 1) (by omega)]; exact h3
theorem combS_can (keep : Int → Bool) (l : List (List (Int × Int))) : Can (combS keep l) := canon_can _
theorem combS_in (keep : Int → Bool) (l : List (List (Int × Int))) (p : Int) : InL (combS keep l) p ↔ keep (cntIn l p) = true ∧ 0 ≤ p ∧ p < 1000000 := by
  unfold combS
  rw [canon_in, outC_in keep _ (fun x hx => spansOf_mem hx)]
  constructor
  · rintro ⟨⟨h1, h2, h3⟩, _⟩
    rw [covE_spans l p] at h1
    exact ⟨h1, h2, h3⟩
  · rintro ⟨h1, h2, h3⟩
    rw [covE_spans l p]
    exact ⟨⟨h1, h2, h3⟩, h2, h3⟩
end Go.Proofs.YtenfkejbndifdaaGreatDoor

namespace Go.Proofs.YtenfkejbndifdaaGreatDoor
set_option linter.unusedVariables false
set_option linter.unusedSimpArgs false

def unionS (l : List (List (Int × Int))) : List (Int × Int) := combS (fun n => decide (0 < n)) l
def interS (l : List (List (Int × Int))) : List (Int × Int) := combS (fun n => decide (n = (l.length : Int))) l
def complS (s : List (Int × Int)) : List (Int × Int) := combS (fun n => decide (n = 0)) [s]
def minusS (a b : List (Int × Int)) : List (Int × Int) := interS [a, complS b]
def subB (a b : List (Int × Int)) : Bool := decide (minusS a b = [])

theorem union_can (l : List (List (Int × Int))) : Can (unionS l) := combS_can _ _
theorem inter_can (l : List (List (Int × Int))) : Can (interS l) := combS_can _ _
theorem compl_can (s : List (Int × Int)) : Can (complS s) := combS_can _ _
theorem cnt_pos (l : List (List (Int × Int))) (p : Int) : 0 < cntIn l p ↔ ∃ s ∈ l, hasB s p = true := by
  unfold cntIn
  rw [List.countP_pos_iff]
theorem cnt_all (l : List (List (Int × Int))) (p : Int) : cntIn l p = l.length ↔ ∀ s ∈ l, hasB s p = true := by
  unfold cntIn
  rw [List.countP_eq_length]
theorem union_in (l : List (List (Int × Int))) (p : Int) : InL (unionS l) p ↔ (∃ s ∈ l, InL s p) ∧ 0 ≤ p ∧ p < 1000000 := by
  unfold unionS
  rw [combS_in, decide_eq_true_eq]
  have h := cnt_pos l p
  constructor
  · rintro ⟨h1, h2⟩
    obtain ⟨s, hs, h3⟩ := h.1 (by omega)
    exact ⟨⟨s, hs, ((hasB_iff s p).1 h3).1⟩, h2⟩
  · rintro ⟨⟨s, hs, h3⟩, h2⟩
    have := h.2 ⟨s, hs, (hasB_iff s p).2 ⟨h3, h2⟩⟩
    exact ⟨by omega, h2⟩
theorem inter_in (l : List (List (Int × Int))) (p : Int) : InL (interS l) p ↔ (∀ s ∈ l, InL s p) ∧ 0 ≤ p ∧ p < 1000000 := by
  unfold interS
  rw [combS_in, decide_eq_true_eq]
  have h := cnt_all l p
  constructor
  · rintro ⟨h1, h2⟩
    have h3 := h.1 (by omega)
    exact ⟨fun s hs => ((hasB_iff s p).1 (h3 s hs)).1, h2⟩
  · rintro ⟨h1, h2⟩
    have := h.2 fun s hs => (hasB_iff s p).2 ⟨h1 s hs, h2⟩
    exact ⟨by omega, h2⟩
theorem compl_in (s : List (Int × Int)) (p : Int) : InL (complS s) p ↔ ¬ InL s p ∧ 0 ≤ p ∧ p < 1000000 := by
  unfold complS
  rw [combS_in, decide_eq_true_eq]
  have h := cnt_pos [s] p
  constructor
  · rintro ⟨h1, h2⟩
    refine ⟨fun h3 => ?_, h2⟩
    have := h.2 ⟨s, by simp, (hasB_iff s p).2 ⟨h3, h2⟩⟩
    omega
  · rintro ⟨h1, h2⟩
    refine ⟨?_, h2⟩
    rcases Nat.eq_zero_or_pos (cntIn [s] p) with h3 | h3
    · omega
    · obtain ⟨t, ht, h4⟩ := h.1 h3
      rcases List.mem_singleton.1 ht with rfl
      exact absurd ((hasB_iff t p).1 h4).1 h1
def gapsF (q : Int) : List (Int × Int) → List (Int × Int)
  | [] => if q < 1000000 then [(q, 1000000)] else []
  | x :: t => (if q < x.1 then [(q, x.1)] else []) ++ gapsF x.2 t
def gapSt (s : List (Int × Int) × Int) (x : Int × Int) : List (Int × Int) × Int := (if s.2 < x.1 then s.1 ++ [(s.2, x.1)] else s.1, x.2)
def gapEnd (s : List (Int × Int) × Int) : List (Int × Int) := if s.2 < 1000000 then s.1 ++ [(s.2, 1000000)] else s.1
theorem gap_fold : ∀ (l o : List (Int × Int)) (q : Int), gapEnd (l.foldl gapSt (o, q)) = o ++ gapsF q l
  | [], o, q => by
    rw [List.foldl_nil]
    show (if q < 1000000 then o ++ [(q, 1000000)] else o) = o ++ (if q < 1000000 then [(q, 1000000)] else [])
    by_cases h : q < 1000000
    · rw [if_pos h, if_pos h]
    · rw [if_neg h, if_neg h, List.append_nil]
  | x :: l, o, q => by
    rw [List.foldl_cons, show gapSt (o, q) x = (if q < x.1 then o ++ [(q, x.1)] else o, x.2) from rfl, gap_fold l, gapsF]
    split <;> simp
theorem gap_len : ∀ (l : List (Int × Int)) (s : List (Int × Int) × Int), (l.foldl gapSt s).1.length ≤ s.1.length + l.length
  | [], s => by simp
  | x :: l, s => by
    have h := gap_len l (gapSt s x)
    have h2 : (gapSt s x).1.length ≤ s.1.length + 1 := by unfold gapSt; simp only; split <;> simp
    rw [List.foldl_cons, List.length_cons]
    omega
theorem gaps_ok : ∀ (l : List (Int × Int)) (q : Int), Can l → 0 ≤ q → q ≤ 1000000 → (∀ x ∈ l, q ≤ x.1) →
    Can (gapsF q l) ∧ (∀ y ∈ gapsF q l, q ≤ y.1) ∧ ∀ p, InL (gapsF q l) p ↔ (q ≤ p ∧ p < 1000000) ∧ ¬ InL l p
  | [], q, _, h0, h1, _ => by
    unfold gapsF
    split
    · rename_i h
      refine ⟨can_cons.2 ⟨⟨h0, h, Int.le_refl _⟩, fun y hy => (List.not_mem_nil hy).elim, can_nil⟩, fun y hy => ?_, fun p => ?_⟩
      · rcases List.mem_singleton.1 hy with rfl
        exact Int.le_refl _
      · rw [inL_one]
        exact ⟨fun h => ⟨h, inL_nil p⟩, fun h => h.1⟩
    · refine ⟨can_nil, fun y hy => (List.not_mem_nil hy).elim, fun p => ⟨fun h => (inL_nil p h).elim, fun h => ?_⟩⟩
      exfalso; omega
  | x :: t, q, hc, h0, h1, hx => by
    obtain ⟨hx0, hxt, hct⟩ := can_cons.1 hc
    have hq := hx x List.mem_cons_self
    obtain ⟨g1, g2, g3⟩ := gaps_ok t x.2 hct (by omega) hx0.2.2 (fun y hy => by have := hxt y hy; omega)
    have key : ∀ p, x.2 ≤ p → ¬ (x.1 ≤ p ∧ p < x.2) := fun p h h2 => by omega
    have low : ∀ p, InL t p → x.2 ≤ p := fun p ⟨y, hy, h⟩ => by have := hxt y hy; omega
    unfold gapsF
    split
    · rename_i h
      refine ⟨?_, ?_, fun p => ?_⟩
      · rw [List.singleton_append]
        exact can_cons.2 ⟨⟨h0, h, by omega⟩, fun y hy => by have := g2 y hy; show x.1 < y.1; omega, g1⟩
      · intro y hy
        rw [List.singleton_append] at hy
        rcases List.mem_cons.1 hy with rfl | hy
        · exact Int.le_refl _
        · have := g2 y hy; omega
      · rw [inL_append, inL_one, g3, inL_cons]
        constructor
        · rintro (h2 | ⟨h2, h3⟩)
          · refine ⟨⟨h2.1, by have := h2.2; simp only at this; omega⟩, ?_⟩
            rintro (h4 | h4)
            · have := h2.2; simp only at this; omega
            · have := low p h4; have := h2.2; simp only at this; omega
          · refine ⟨⟨by omega, h2.2⟩, ?_⟩
            rintro (h4 | h4)
            · omega
            · exact h3 h4
        · rintro ⟨h2, h3⟩
          by_cases h4 : p < x.1
          · exact .inl ⟨h2.1, h4⟩
          · refine .inr ⟨⟨?_, h2.2⟩, fun h5 => h3 (.inr h5)⟩
            rcases Int.lt_or_le p x.2 with h5 | h5
            · exact absurd (.inl ⟨by omega, h5⟩) h3
            · exact h5
    · rename_i h
      have e : q = x.1 := by omega
      rw [List.nil_append]
      refine ⟨g1, fun y hy => by have := g2 y hy; omega, fun p => ?_⟩
      rw [g3, inL_cons]
      constructor
      · rintro ⟨h2, h3⟩
        refine ⟨⟨by omega, h2.2⟩, ?_⟩
        rintro (h4 | h4)
        · omega
        · exact h3 h4
      · rintro ⟨h2, h3⟩
        refine ⟨⟨?_, h2.2⟩, fun h5 => h3 (.inr h5)⟩
        rcases Int.lt_or_le p x.2 with h5 | h5
        · exact absurd (.inl ⟨by omega, h5⟩) h3
        · exact h5
theorem gaps_compl (s : List (Int × Int)) : gapEnd ((canon s).foldl gapSt ([], 0)) = complS s := by
  rw [gap_fold, List.nil_append]
  obtain ⟨g1, _, g3⟩ := gaps_ok (canon s) 0 (canon_can s) (Int.le_refl _) (by omega) (fun x hx => ((canon_can s).2 x hx).1)
  refine can_unique g1 (compl_can s) fun p => ?_
  rw [g3, compl_in, canon_in]
  constructor
  · rintro ⟨h1, h2⟩
    exact ⟨fun h => h2 ⟨h, h1⟩, h1⟩
  · rintro ⟨h1, h2⟩
    exact ⟨h2, fun h => h1 h.1⟩
theorem inL_flatten (l : List (List (Int × Int))) (p : Int) : InL l.flatten p ↔ ∃ s ∈ l, InL s p := by
  unfold InL
  constructor
  · rintro ⟨x, hx, h⟩
    obtain ⟨s, hs, hx⟩ := List.mem_flatten.1 hx
    exact ⟨s, hs, x, hx, h⟩
  · rintro ⟨s, hs, x, hx, h⟩
    exact ⟨x, List.mem_flatten.2 ⟨s, hs, hx⟩, h⟩
theorem flat_union (l : List (List (Int × Int))) : canon l.flatten = unionS l := by
  refine can_unique (canon_can _) (union_can _) fun p => ?_
  rw [canon_in, inL_flatten, union_in]
theorem de_morgan (l : List (List (Int × Int))) : complS (unionS (l.map complS)) = interS l := by
  refine can_unique (compl_can _) (inter_can _) fun p => ?_
  rw [compl_in, union_in, inter_in]
  constructor
  · rintro ⟨h1, h2⟩
    refine ⟨fun s hs => Classical.byContradiction fun h3 => h1 ⟨⟨complS s, List.mem_map.2 ⟨s, hs, rfl⟩, (compl_in s p).2 ⟨h3, h2⟩⟩, h2⟩, h2⟩
  · rintro ⟨h1, h2⟩
    refine ⟨fun ⟨⟨t, ht, h3⟩, _⟩ => ?_, h2⟩
    obtain ⟨s, hs, rfl⟩ := List.mem_map.1 ht
    exact ((compl_in s p).1 h3).1 (h1 s hs)
theorem hasB_ref (s : List (Int × Int)) (p : Int) : (s.any fun x => decide (max 0 x.1 ≤ p) && decide (p < min 1000000 x.2)) = hasB s p := by
  rw [Bool.eq_iff_iff, hasB_iff]
  unfold InL
  simp only [List.any_eq_true, Bool.and_eq_true, decide_eq_true_eq]
  constructor
  · rintro ⟨x, hx, h1, h2⟩
    exact ⟨⟨x, hx, by omega, by omega⟩, by omega, by omega⟩
  · rintro ⟨⟨x, hx, h1, h2⟩, h3, h4⟩
    exact ⟨x, hx, by omega, by omega⟩

theorem spansOf_len : ∀ (l : List (List (Int × Int))) (C : Nat), (∀ s ∈ l, s.length ≤ C) → (spansOf l).length ≤ l.length * C
  | [], C, _ => by simp [spansOf]
  | s :: l, C, h => by
    have ih := spansOf_len l C fun x hx => h x (List.mem_cons_of_mem _ hx)
    have h1 := h s List.mem_cons_self
    have h2 := canon_len s
    unfold spansOf at *
    rw [List.flatMap_cons, List.length_append, List.length_cons, Nat.add_mul]
    omega
theorem onceI_len : ∀ l : List Int, (onceI l).length ≤ l.length
  | [] => Nat.le_refl _
  | x :: l => by
    have := onceI_len l
    unfold onceI
    split <;> simp <;> omega
theorem endsE_len : ∀ E : List (Int × Int), (endsE E).length = 2 * E.length
  | [] => rfl
  | x :: E => by
    have := endsE_len E
    unfold endsE at *
    rw [List.flatMap_cons, List.length_append, this]
    simp
    omega
theorem combS_len (keep : Int → Bool) (l : List (List (Int × Int))) : (combS keep l).length ≤ 1 + 2 * (spansOf l).length := by
  unfold combS
  refine Nat.le_trans (canon_len _) (Nat.le_trans (outC_len _ _ _ _) ?_)
  unfold boundsE
  rw [List.length_mergeSort]
  have h1 := onceI_len (0 :: 1000000 :: endsE (spansOf l))
  have h2 := endsE_len (spansOf l)
  simp only [List.length_cons] at h1
  omega
theorem complS_len (s : List (Int × Int)) : (complS s).length ≤ 1 + 2 * s.length := by
  have h1 := combS_len (fun n => decide (n = 0)) [s]
  have h2 := spansOf_len [s] s.length (fun x hx => by rcases List.mem_singleton.1 hx with rfl; exact Nat.le_refl _)
  simp only [List.length_singleton] at h2
  unfold complS
  omega
end Go.Proofs.YtenfkejbndifdaaGreatDoor

namespace Go.Proofs.YtenfkejbndifdaaGreatDoor
open Go Go.RowKit

def partB (a : Int) : Bool := decide (0 ≤ a ∧ a ≤ 999)
def validB (a b c : Int) : Bool := partB a && (partB b && partB c)
def cmpI (a b : Int) : Int := if a < b then -1 else if b < a then 1 else 0
def cmpV (a b c x y z : Int) : Int := if cmpI a x ≠ 0 then cmpI a x else if cmpI b y ≠ 0 then cmpI b y else cmpI c z

theorem parts_any (a b c : Int) (w : World) :
    Calls Tryz.prog 136 #[.agg #[.int .i64 a, .int .i64 b, .int .i64 c]] w fun e w' => e = .returned (.agg #[.int .i64 a, .int .i64 b, .int .i64 c]) ∧ w' = (w.alloc (.cells #[.int .i64 a, .int .i64 b, .int .i64 c] 41)).alloc (.cells #[.int .i64 a, .int .i64 b, .int .i64 c] 174) := by
  go_enter Tryz.func136, Tryz.ntmps136
  go_wp2
  exact bodyPost_ret (v := .agg #[.int .i64 a, .int .i64 b, .int .i64 c]) (by simp [results, Tryz.results136, go_sem]) rfl ⟨rfl, rfl⟩
theorem nan_any (a : Int) (w : World) : Calls Tryz.prog 202 #[.int .i64 a] w fun e w' => e = .returned (.bool false) ∧ w = w' := by
  go_enter Tryz.func202, Tryz.ntmps202
  go_wp2
  go_ret
  exact ⟨rfl, rfl⟩
theorem cmp_any (a b : Int) (w : World) : Calls Tryz.prog 180 #[.int .i64 a, .int .i64 b] w fun e w' => e = .returned (.int .i64 (cmpI a b)) ∧ w = w' := by
  rcases Int.lt_trichotomy a b with h | h | h
  · have hc : cmpI a b = -1 := by unfold cmpI; rw [if_pos h]
    rw [hc]; clear hc
    go_enter Tryz.func180, Tryz.ntmps180
    go_wp2_with (go_at_call 202; refine (nan_any _ _).mono ?_; rintro e w' ⟨rfl, rfl⟩)
    go_ret
    exact ⟨rfl, rfl⟩
  · have hc : cmpI a b = 0 := by unfold cmpI; rw [if_neg (by omega), if_neg (by omega)]
    rw [hc]; clear hc
    subst h
    go_enter Tryz.func180, Tryz.ntmps180
    go_wp2_with (go_at_call 202; refine (nan_any _ _).mono ?_; rintro e w' ⟨rfl, rfl⟩)
    go_ret
    exact ⟨rfl, rfl⟩
  · have hc : cmpI a b = 1 := by unfold cmpI; rw [if_neg (by omega), if_pos h]
    rw [hc]; clear hc
    have h2 : ¬ a < b := by omega
    go_enter Tryz.func180, Tryz.ntmps180
    go_wp2_with (go_at_call 202; refine (nan_any _ _).mono ?_; rintro e w' ⟨rfl, rfl⟩)
    go_ret
    exact ⟨rfl, rfl⟩
end Go.Proofs.YtenfkejbndifdaaGreatDoor

namespace Go.Proofs.YtenfkejbndifdaaGreatDoor
open Go Go.RowKit

theorem valid_le {a b c : Int} (h : validB a b c = true) : (0 ≤ a ∧ a ≤ 999) ∧ (0 ≤ b ∧ b ≤ 999) ∧ 0 ≤ c ∧ c ≤ 999 := by
  unfold validB partB at h
  simpa using h
theorem part_yes {a : Int} (h : partB a = true) : ¬ a < 0 ∧ ¬ 999 < a := by unfold partB at h; have := of_decide_eq_true h; omega
theorem part_no {a : Int} (h : partB a = false) : a < 0 ∨ (¬ a < 0 ∧ 999 < a) := by unfold partB at h; have := of_decide_eq_false h; omega
set_option maxRecDepth 100000 in
set_option maxHeartbeats 1000000 in
theorem Valid_any (a b c : Int) (w : World) : Calls Tryz.prog 95 #[.agg #[.int .i64 a, .int .i64 b, .int .i64 c]] w fun e w' => e = .returned (.bool (validB a b c)) ∧ w' = ((w.alloc (.cells #[.int .i64 a, .int .i64 b, .int .i64 c] 41)).alloc (.cells #[.int .i64 a, .int .i64 b, .int .i64 c] 41)).alloc (.cells #[.int .i64 a, .int .i64 b, .int .i64 c] 174) := by
  have i0 : ∀ w, (Instr.index 174 (.agg #[.int .i64 a, .int .i64 b, .int .i64 c]) (.int .i64 0)).run Tryz.prog w = .ok (.int .i64 a) w := fun _ => by kernel_rfl
  have i1 : ∀ w, (Instr.index 174 (.agg #[.int .i64 a, .int .i64 b, .int .i64 c]) (.int .i64 1)).run Tryz.prog w = .ok (.int .i64 b) w := fun _ => by kernel_rfl
  have i2 : ∀ w, (Instr.index 174 (.agg #[.int .i64 a, .int .i64 b, .int .i64 c]) (.int .i64 2)).run Tryz.prog w = .ok (.int .i64 c) w := fun _ => by kernel_rfl
  obtain ⟨v, hv⟩ : ∃ v, validB a b c = v := ⟨_, rfl⟩
  rw [hv]
  have HV := Lib.hid hv
  clear hv
  go_enter Tryz.func95, Tryz.ntmps95
  go_wp2_with (go_at_call 136; refine (parts_any _ _ _ _).mono ?_; rintro e w' ⟨rfl, rfl⟩)
  go_loop [7] (fun i => (i = .int .i64 0) ∨ (i = .int .i64 1 ∧ Hid (partB a = true)) ∨ (i = .int .i64 2 ∧ Hid (partB a = true ∧ partB b = true)) ∨ (i = .int .i64 3 ∧ Hid (partB a = true ∧ partB b = true ∧ partB c = true))) (fun i => 3 - (intOf i).toNat)
  case atStart => exact .inl rfl
  case round =>
    rcases hrel with rfl | ⟨rfl, H1⟩ | ⟨rfl, H2⟩ | ⟨rfl, H3⟩
    · by_cases hp : partB a = true
      · obtain ⟨h1, h2⟩ := part_yes hp
        have HP := Lib.hid hp
        clear hp
        go_wp2
        go_round
        case rel => exact .inr (.inl ⟨rfl, HP⟩)
        case measure => simp [intOf]
      · have HP := Lib.hid hp
        have HVF := Lib.hid (show v = false by rw [← HV.out]; unfold validB; simp [HP.out])
        rcases part_no (by simpa using hp) with h1 | ⟨h1, h2⟩
        all_goals
          clear hp
          go_wp2
          go_ret
          exact ⟨by rw [HVF.out]; rfl, rfl⟩
    · by_cases hp : partB b = true
      · obtain ⟨h1, h2⟩ := part_yes hp
        have HP := Lib.hid hp
        clear hp
        go_wp2
        go_round
        case rel => exact .inr (.inr (.inl ⟨rfl, Lib.hid ⟨H1.out, HP.out⟩⟩))
        case measure => simp [intOf]
      · have HP := Lib.hid hp
        have HVF := Lib.hid (show v = false by rw [← HV.out]; unfold validB; simp [HP.out])
        rcases part_no (by simpa using hp) with h1 | ⟨h1, h2⟩
        all_goals
          clear hp
          go_wp2
          go_ret
          exact ⟨by rw [HVF.out]; rfl, rfl⟩
    · by_cases hp : partB c = true
      · obtain ⟨h1, h2⟩ := part_yes hp
        have HP := Lib.hid hp
        clear hp
        go_wp2
        go_round
        case rel => exact .inr (.inr (.inr ⟨rfl, Lib.hid ⟨H2.out.1, H2.out.2, HP.out⟩⟩))
        case measure => simp [intOf]
      · have HP := Lib.hid hp
        have HVF := Lib.hid (show v = false by rw [← HV.out]; unfold validB; simp [HP.out])
        rcases part_no (by simpa using hp) with h1 | ⟨h1, h2⟩
        all_goals
          clear hp
          go_wp2
          go_ret
          exact ⟨by rw [HVF.out]; rfl, rfl⟩
    · have HVF := Lib.hid (show v = true by rw [← HV.out]; unfold validB; simp [H3.out])
      go_wp2
      go_ret
      exact ⟨by rw [HVF.out]; rfl, rfl⟩
def knownB (l : Int) : Bool := decide (0 ≤ l ∧ l ≤ 2)
end Go.Proofs.YtenfkejbndifdaaGreatDoor

namespace Go.Proofs.YtenfkejbndifdaaGreatDoor
open Go

def smallZ (c : Int) : Bool := decide (97 ≤ c) && decide (c ≤ 122)
def capitalZ (c : Int) : Bool := decide (65 ≤ c) && decide (c ≤ 90)
def digitZ (c : Int) : Bool := decide (48 ≤ c) && decide (c ≤ 57)
def wordZ (c : Int) : Bool := smallZ c || capitalZ c || digitZ c || c == 95
def pathZ (c : Int) : Bool := smallZ c || digitZ c

def hexZ (c : Int) : Int := if digitZ c then c - 48 else if 97 ≤ c ∧ c ≤ 102 then c - 87 else -1

def allZ (p : Int → Bool) (s : ByteArray) : Bool := s.data.toList.all fun b => p b.toNat

theorem all_take (p : Int → Bool) (s : ByteArray) (k : Nat) (h : k < s.size) (hp : (s.data.toList.take k).all (fun b => p b.toNat) = true) (hb : p (s[k].toNat) = true) :
    (s.data.toList.take (k + 1)).all (fun b => p b.toNat) = true := by
  rw [List.take_succ_eq_append_getElem (by simpa using h)]
  simp only [List.all_append, hp, Bool.true_and, List.all_cons, List.all_nil, Bool.and_true]
  exact hb
theorem all_done (p : Int → Bool) (s : ByteArray) (k : Nat) (h : s.size ≤ k) (hp : (s.data.toList.take k).all (fun b => p b.toNat) = true) : allZ p s = true := by
  rw [List.take_of_length_le (by simpa using h)] at hp; exact hp
theorem all_not (p : Int → Bool) (s : ByteArray) (k : Nat) (h : k < s.size) (hb : ¬ p (s[k].toNat) = true) : allZ p s = false := by
  unfold allZ
  rw [List.all_eq_false]
  refine ⟨s[k], ?_, hb⟩
  exact Array.mem_toList_iff.2 (Array.getElem_mem _)

theorem any_take (ss : List ByteArray) (s : ByteArray) (k : Nat) (h : k < ss.length) (hp : (ss.take k).any (fun x => x.toList == s.toList) = false) (hb : ((ss.getD k ByteArray.empty).toList == s.toList) = false) :
    (ss.take (k + 1)).any (fun x => x.toList == s.toList) = false := by
  rw [List.take_succ_eq_append_getElem h, List.any_append, hp]
  have : ss.getD k ByteArray.empty = ss[k] := by simp [h]
  rw [this] at hb
  simp only [List.any_cons, List.any_nil, hb, Bool.or_false]
theorem any_done (ss : List ByteArray) (s : ByteArray) (k : Nat) (h : ss.length ≤ k) (hp : (ss.take k).any (fun x => x.toList == s.toList) = false) : ss.any (fun x => x.toList == s.toList) = false := by
  rw [List.take_of_length_le h] at hp; exact hp
theorem any_hit (ss : List ByteArray) (s : ByteArray) (k : Nat) (h : k < ss.length) (hb : ((ss.getD k ByteArray.empty).toList == s.toList) = true) : ss.any (fun x => x.toList == s.toList) = true := by
  rw [List.any_eq_true]
  have : ss.getD k ByteArray.empty = ss[k] := by simp [h]
  rw [this] at hb
  exact ⟨ss[k], List.getElem_mem h, hb⟩

def kwList : List ByteArray := [⟨#[97, 110, 100]⟩, ⟨#[97, 110, 121]⟩, ⟨#[97, 115]⟩, ⟨#[98, 111, 111, 108]⟩, ⟨#[100, 101, 112, 114, 101, 99, 97, 116, 101, 100]⟩, ⟨#[101, 108, 115, 101]⟩, ⟨#[101, 120, 112, 111, 114, 116]⟩, ⟨#[102, 97, 108, 115, 101]⟩, ⟨#[102, 110]⟩, ⟨#[102, 111, 108, 100]⟩, ⟨#[102, 114, 111, 109]⟩, ⟨#[105, 102]⟩, ⟨#[105, 109, 112, 111, 114, 116]⟩, ⟨#[105, 110]⟩, ⟨#[105, 110, 116]⟩, ⟨#[108, 101, 110, 103, 116, 104]⟩, ⟨#[108, 101, 116]⟩, ⟨#[108, 105, 115, 116]⟩, ⟨#[109, 97, 116, 99, 104]⟩, ⟨#[109, 111, 100, 117, 108, 101]⟩, ⟨#[110, 111, 110, 101]⟩, ⟨#[110, 111, 116]⟩, ⟨#[111, 114]⟩, ⟨#[116, 101, 120, 116]⟩, ⟨#[116, 104, 101, 110]⟩, ⟨#[116, 114, 117, 101]⟩, ⟨#[116, 121, 112, 101]⟩, ⟨#[117, 115, 101]⟩]
def symList : List ByteArray := [⟨#[61, 61, 61]⟩, ⟨#[58, 58]⟩, ⟨#[62, 58]⟩, ⟨#[60, 58]⟩, ⟨#[61, 62]⟩, ⟨#[61, 61]⟩, ⟨#[43, 43]⟩, ⟨#[40]⟩, ⟨#[41]⟩, ⟨#[91]⟩, ⟨#[93]⟩, ⟨#[123]⟩, ⟨#[125]⟩, ⟨#[60]⟩, ⟨#[62]⟩, ⟨#[44]⟩, ⟨#[58]⟩, ⟨#[61]⟩, ⟨#[46]⟩, ⟨#[43]⟩, ⟨#[45]⟩, ⟨#[42]⟩, ⟨#[124]⟩, ⟨#[63]⟩, ⟨#[47]⟩]

def headZ (s : ByteArray) : Int := if h : 0 < s.size then ((s[0]'h).toNat : Int) else 0
theorem headZ_eq (s : ByteArray) (h : 0 < s.size) : headZ s = ((s[0]'h).toNat : Int) := by unfold headZ; rw [dif_pos h]
def kwS (s : ByteArray) : Bool := kwList.any fun x => x.toList == s.toList
theorem kwS_eq (s : ByteArray) : kwS s = kwList.any (fun x => x.data.toList == s.data.toList) := by unfold kwS; simp only [ByteArray.toList_eq]
def nameS (s : ByteArray) : Bool := decide (1 ≤ s.size) && (decide (s.size ≤ 32) && (smallZ (headZ s) && (allZ wordZ s && !kwS s)))
def typeS (s : ByteArray) : Bool := decide (1 ≤ s.size) && (decide (s.size ≤ 32) && (capitalZ (headZ s) && allZ wordZ s))


def kwText : List UInt8 := kwList.flatMap (fun b => 32 :: b.data.toList) ++ [32]
theorem kw_fin : ∀ j, j < 200 → kwText[j]? = some 32 → (kwText.drop (j + 1)).contains 32 = true → kwList.any (fun x => x.data.toList == (kwText.drop (j + 1)).takeWhile (· != 32)) = true := by decide +kernel
theorem kw_len : kwText.length < 200 := by decide +kernel
theorem kw_all : kwList.all (fun x => Lib.contains kwText (32 :: x.data.toList ++ [32])) = true := by decide +kernel
theorem take_no (l r : List UInt8) (h : ∀ b ∈ l, b ≠ 32) : (l ++ 32 :: r).takeWhile (· != 32) = l := by
  induction l with
  | nil => simp
  | cons b l ih => rw [List.cons_append, List.takeWhile_cons, if_pos (by simpa using h b (by simp)), ih (fun c hc => h c (by simp [hc]))]
theorem kw_contains (l : List UInt8) (h : ∀ b ∈ l, b ≠ 32) : Lib.contains kwText (32 :: l ++ [32]) = kwList.any (fun x => x.data.toList == l) := by
  rw [Bool.eq_iff_iff]
  constructor
  · intro hc
    rcases Lib.index_spec kwText (32 :: l ++ [32]) with ⟨h1, _⟩ | ⟨i, _, hi, ho, _⟩
    · rw [Lib.contains, h1] at hc; exact absurd hc (by decide)
    · simp only [Lib.occAt, List.isPrefixOf_iff_prefix] at ho
      obtain ⟨r, hr⟩ := ho
      have e1 : kwText.drop i = 32 :: (l ++ 32 :: r) := by rw [← hr]; simp
      have e2 : kwText.drop (i + 1) = l ++ 32 :: r := by rw [← List.drop_drop, e1]; rfl
      have e3 : kwText[i]? = some 32 := by rw [← Nat.add_zero i, ← List.getElem?_drop, e1]; rfl
      have := kw_fin i (by have := kw_len; omega) e3 (by rw [e2]; simp)
      rw [e2, take_no l r h] at this
      exact this
  · intro hc
    rw [List.any_eq_true] at hc
    obtain ⟨x, hx, he⟩ := hc
    have := List.all_eq_true.1 kw_all x hx
    simp only [beq_iff_eq] at he
    rw [he] at this
    exact this

theorem toList_data (s : ByteArray) : s.toList = s.data.toList := Lib.toList_data s
theorem ne_nil (s : ByteArray) (h : 1 ≤ s.size) : ¬ s.toList = [] := by
  rw [toList_data]; intro e; rw [Lib.size_eq, e] at h; exact absurd h (by decide)
theorem ne_empty (s : ByteArray) (h : 1 ≤ s.size) : s.toList.isEmpty = false := by
  have := ne_nil s h; simpa using this
theorem is_nil (s : ByteArray) (h : ¬ 1 ≤ s.size) : s.toList = [] := by
  rw [toList_data]; rw [Lib.size_eq] at h; exact List.length_eq_zero_iff.1 (by omega)

end Go.Proofs.YtenfkejbndifdaaGreatDoor
