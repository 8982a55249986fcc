/- Plain: what a walk over the releases that are reached keeps; the greatest release of a path. The index's Find. slices.Sort and slices.Compact at a row of the call's own. Contract of the graph's newSuccessors. Contracts of the graph's Valid; slices.ContainsFunc at edges. The graph's exist; slices.ContainsFunc at numbers. Contract of the graph's Reverse. The graph of a selection: graph.Of. -/
import Derived.Test.YtenfkejbndifdaaGreatDoorYK
import Derived.Test.YtenfkejbndifdaaGreatDoorYD
import Derived.Test.YtenfkejbndifdaaGreatDoorYC
import Derived.Test.YtenfkejbndifdaaGreatDoorQShelf
import Derived.Test.YtenfkejbndifdaaGreatDoorYF
import Derived.Deep.OwnRows
import Derived.Outline
import Derived.Shelf.GgClosure.Gives
import Derived.Test.YtenfkejbndifdaaGreatDoorYL
namespace Go.Proofs.YtenfkejbndifdaaGreatDoor
set_option linter.unusedVariables false
set_option linter.unusedSimpArgs false
open Go

def namesL (nw : Bool) (X : List RelL) (l : List ReqL) : List Nat := l.filterMap (namedI nw X)
def AllN (nw : Bool) (X : List RelL) (l : List ReqL) : Prop := ∀ q ∈ l, (namedI nw X q).isSome = true
theorem namesL_mem {nw : Bool} {X : List RelL} {l : List ReqL} {i : Nat} : i ∈ namesL nw X l ↔ ∃ q ∈ l, namedI nw X q = some i := List.mem_filterMap
theorem namesL_len {nw : Bool} {X : List RelL} {l : List ReqL} : (namesL nw X l).length ≤ l.length := List.length_filterMap_le _ _
theorem namesL_snoc {nw : Bool} {X : List RelL} {l : List ReqL} {q : ReqL} {i : Nat} (h : namedI nw X q = some i) : namesL nw X (l ++ [q]) = namesL nw X l ++ [i] := by
  unfold namesL
  rw [List.filterMap_append]
  simp [h]
theorem namesL_all : ∀ {nw : Bool} {X : List RelL} {l : List ReqL}, AllN nw X l → (namesL nw X l).length = l.length
  | _, _, [], _ => rfl
  | nw, X, q :: l, h => by
    obtain ⟨i, hi⟩ := Option.isSome_iff_exists.1 (h q (by simp))
    have := namesL_all (l := l) (nw := nw) (X := X) (fun p hp => h p (by simp [hp]))
    unfold namesL at this ⊢
    rw [List.filterMap_cons, hi]
    simp [this]
structure RchI (nw : Bool) (X : List RelL) (roots : List ReqL) (seen todo : List Nat) : Prop where
  nodup : seen.Nodup
  seenR : ∀ i ∈ seen, RchM nw X roots i
  todoR : ∀ i ∈ todo, RchM nw X roots i
  root : ∀ q ∈ roots, ∃ i, namedI nw X q = some i ∧ (i ∈ seen ∨ i ∈ todo)
  step : ∀ k ∈ seen, ∀ q ∈ (X.getD k default).reqs, ∃ i, namedI nw X q = some i ∧ (i ∈ seen ∨ i ∈ todo)
variable {nw : Bool} {X : List RelL} {roots : List ReqL} {seen todo : List Nat}
theorem RchI.start (h : AllN nw X roots) : RchI nw X roots [] (namesL nw X roots) := by
  refine ⟨List.nodup_nil, (fun i hi => by cases hi), fun i hi => ?_, fun q hq => ?_, (fun k hk => by cases hk)⟩
  · obtain ⟨q, hq, hn⟩ := namesL_mem.1 hi
    exact .root hq hn
  · obtain ⟨i, hi⟩ := Option.isSome_iff_exists.1 (h q hq)
    exact ⟨i, hi, .inr (namesL_mem.2 ⟨q, hq, hi⟩)⟩
theorem RchI.noroot (h : ¬ AllN nw X roots) : ¬ AllM nw X roots := fun ha => h fun q hq => by
  obtain ⟨i, hi⟩ := ha.1 q hq
  rw [hi]; rfl
theorem RchI.skip {i : Nat} (h : RchI nw X roots seen (i :: todo)) (hi : i ∈ seen) : RchI nw X roots seen todo := by
  have key : ∀ j, (j ∈ seen ∨ j ∈ i :: todo) → j ∈ seen ∨ j ∈ todo := fun j hj => by
    rcases hj with hj | hj
    · exact .inl hj
    · rcases List.mem_cons.1 hj with rfl | hj
      · exact .inl hi
      · exact .inr hj
  exact ⟨h.nodup, h.seenR, fun j hj => h.todoR j (List.mem_cons_of_mem _ hj), fun q hq => by
    obtain ⟨j, h1, h2⟩ := h.root q hq
    exact ⟨j, h1, key j h2⟩, fun k hk q hq => by
    obtain ⟨j, h1, h2⟩ := h.step k hk q hq
    exact ⟨j, h1, key j h2⟩⟩
theorem RchI.no {i : Nat} (h : RchI nw X roots seen (i :: todo)) (hn : ¬ AllN nw X (X.getD i default).reqs) : ¬ AllM nw X roots := fun ha => hn fun q hq => by
  obtain ⟨j, hj⟩ := ha.2 i (h.todoR i (by simp)) q hq
  rw [hj]; rfl
theorem RchI.mark {i : Nat} (h : RchI nw X roots seen (i :: todo)) (hi : i ∉ seen) (hn : AllN nw X (X.getD i default).reqs) : RchI nw X roots (i :: seen) (todo ++ namesL nw X (X.getD i default).reqs) := by
  have hr := h.todoR i (by simp)
  have key : ∀ j, (j ∈ seen ∨ j ∈ i :: todo) → j ∈ i :: seen ∨ j ∈ todo ++ namesL nw X (X.getD i default).reqs := fun j hj => by
    rcases hj with hj | hj
    · exact .inl (List.mem_cons_of_mem _ hj)
    · rcases List.mem_cons.1 hj with rfl | hj
      · exact .inl (by simp)
      · exact .inr (List.mem_append.2 (.inl hj))
  refine ⟨List.nodup_cons.2 ⟨hi, h.nodup⟩, fun j hj => ?_, fun j hj => ?_, fun q hq => ?_, fun k hk q hq => ?_⟩
  · rcases List.mem_cons.1 hj with rfl | hj
    · exact hr
    · exact h.seenR j hj
  · rcases List.mem_append.1 hj with hj | hj
    · exact h.todoR j (List.mem_cons_of_mem _ hj)
    · obtain ⟨q, hq, hn⟩ := namesL_mem.1 hj
      exact .step hr hq hn
  · obtain ⟨j, h1, h2⟩ := h.root q hq
    exact ⟨j, h1, key j h2⟩
  · rcases List.mem_cons.1 hk with rfl | hk
    · obtain ⟨j, hj⟩ := Option.isSome_iff_exists.1 (hn q hq)
      exact ⟨j, hj, .inr (List.mem_append.2 (.inr (namesL_mem.2 ⟨q, hq, hj⟩)))⟩
    · obtain ⟨j, h1, h2⟩ := h.step k hk q hq
      exact ⟨j, h1, key j h2⟩
theorem RchI.done (h : RchI nw X roots seen []) : AllM nw X roots ∧ ∀ i, RchM nw X roots i ↔ i ∈ seen := by
  have key : ∀ i, RchM nw X roots i → i ∈ seen := fun i hi => by
    induction hi with
    | root hq hn =>
      obtain ⟨j, h1, h2⟩ := h.root _ hq
      rw [hn] at h1
      cases h1
      exact h2.resolve_right (by simp)
    | step hk hq hn ih =>
      obtain ⟨j, h1, h2⟩ := h.step _ ih _ hq
      rw [hn] at h1
      cases h1
      exact h2.resolve_right (by simp)
  refine ⟨⟨fun q hq => ?_, fun k hk q hq => ?_⟩, fun i => ⟨key i, h.seenR i⟩⟩
  · obtain ⟨j, h1, _⟩ := h.root q hq
    exact ⟨j, h1⟩
  · obtain ⟨j, h1, _⟩ := h.step k (key k hk) q hq
    exact ⟨j, h1⟩
theorem RchI.len (h : RchI nw X roots seen todo) : seen.length ≤ X.length := by
  have := sub_length (m := List.range X.length) h.nodup fun i hi => List.mem_range.2 (h.seenR i hi).lt.1
  simpa using this
theorem RchI.lt {i : Nat} (h : RchI nw X roots seen (i :: todo)) (hi : i ∉ seen) : seen.length < X.length := by
  have := sub_length (l := i :: seen) (m := List.range X.length) (List.nodup_cons.2 ⟨hi, h.nodup⟩) fun j hj => List.mem_range.2 (by
    rcases List.mem_cons.1 hj with rfl | hj
    · exact (h.todoR _ (by simp)).lt.1
    · exact (h.seenR j hj).lt.1)
  simp at this
  omega
structure RqI (nw : Bool) (X : List RelL) (roots : List ReqL) (seen : List Nat) (todo : List ReqL) : Prop where
  nodup : seen.Nodup
  seenR : ∀ i ∈ seen, RchM nw X roots i
  todoR : ∀ q ∈ todo, q ∈ roots ∨ ∃ k, RchM nw X roots k ∧ q ∈ (X.getD k default).reqs
  root : ∀ q ∈ roots, (∃ i, namedI nw X q = some i ∧ i ∈ seen) ∨ q ∈ todo
  step : ∀ k ∈ seen, ∀ q ∈ (X.getD k default).reqs, (∃ i, namedI nw X q = some i ∧ i ∈ seen) ∨ q ∈ todo
variable {todoQ : List ReqL}
def grtI (X : List RelL) (p : ByteArray) : List Nat → Option Nat
  | [] => none
  | i :: l => match grtI X p l with
    | some k => if (X.getD i default).path = p ∧ k < i then some i else some k
    | none => if (X.getD i default).path = p then some i else none
theorem grtI_some {p : ByteArray} : ∀ {l : List Nat} {k : Nat}, grtI X p l = some k → k ∈ l ∧ (X.getD k default).path = p ∧ ∀ j ∈ l, (X.getD j default).path = p → j ≤ k
  | [], k, h => by cases h
  | i :: l, k, h => by
    unfold grtI at h
    cases hg : grtI X p l with
    | some m =>
      obtain ⟨h1, h2, h3⟩ := grtI_some hg
      rw [hg] at h
      simp only at h
      split at h
      · rename_i hc
        cases h
        refine ⟨by simp, hc.1, fun j hj hp => ?_⟩
        rcases List.mem_cons.1 hj with rfl | hj
        · exact Nat.le_refl _
        · have := h3 j hj hp; omega
      · rename_i hc
        cases h
        refine ⟨List.mem_cons_of_mem _ h1, h2, fun j hj hp => ?_⟩
        rcases List.mem_cons.1 hj with rfl | hj
        · by_cases hm : k < j
          · exact absurd ⟨hp, hm⟩ hc
          · omega
        · exact h3 j hj hp
    | none =>
      rw [hg] at h
      simp only at h
      split at h
      · rename_i hc
        cases h
        refine ⟨by simp, hc, fun j hj hp => ?_⟩
        rcases List.mem_cons.1 hj with rfl | hj
        · exact Nat.le_refl _
        · exact absurd hp (grtI_none hg j hj)
      · cases h
where grtI_none {p : ByteArray} : ∀ {l : List Nat}, grtI X p l = none → ∀ j ∈ l, (X.getD j default).path ≠ p
  | [], _, j, hj => by cases hj
  | i :: l, h, j, hj => by
    unfold grtI at h
    cases hg : grtI X p l with
    | some m => rw [hg] at h; simp only at h; split at h <;> cases h
    | none =>
      rw [hg] at h
      simp only at h
      split at h
      · cases h
      · rename_i hc
        rcases List.mem_cons.1 hj with rfl | hj
        · exact hc
        · exact grtI_none hg j hj
theorem grtI_no {p : ByteArray} {l : List Nat} (h : grtI X p l = none) : ∀ j ∈ l, (X.getD j default).path ≠ p := grtI_some.grtI_none h
theorem grt_top (hs : ∀ i, RchM nw X roots i ↔ i ∈ seen) {i : Nat} : i ∈ topM nw X roots ↔ ∃ p, grtI X p seen = some i := by
  rw [topM_mem]
  constructor
  · rintro ⟨h1, h2⟩
    cases hg : grtI X (X.getD i default).path seen with
    | none => exact absurd rfl (grtI_no hg i ((hs i).1 h1))
    | some k =>
      obtain ⟨a, b, c⟩ := grtI_some hg
      have h3 := h2 k ((hs k).2 a) b
      have h4 := c i ((hs i).1 h1) rfl
      have : k = i := by omega
      exact ⟨_, this ▸ hg⟩
  · rintro ⟨p, hg⟩
    obtain ⟨a, b, c⟩ := grtI_some hg
    exact ⟨(hs i).2 a, fun j hj hp => c j ((hs j).1 hj) (hp.trans b)⟩
theorem top_unique {l : List Nat} (hl : l.Pairwise (· < ·)) (h : ∀ i, i ∈ l ↔ i ∈ topM nw X roots) : l = topM nw X roots :=
  List.Perm.eq_of_pairwise (le := (· < ·)) (fun _ _ _ _ h1 h2 => absurd h1 (Nat.lt_asymm h2)) hl (topM_sorted nw X roots) ((List.perm_ext_iff_of_nodup (hl.imp Nat.ne_of_lt) ((topM_sorted nw X roots).imp Nat.ne_of_lt)).2 h)
def geB (X : List RelL) (mn : Int) (i : Nat) : Bool := decide (mn ≤ plc (X.getD i default).ver)
theorem cand_avail {X : List RelL} (hX : IdxOk X) {q : ReqL} (hq : UpQ q) : candI X q = (availI X q.1).filter (geB X (leastV q.2).1) := by
  unfold candI availI
  rw [List.filter_filter]
  refine List.filter_congr fun i hi => ?_
  have hi := List.mem_range.1 hi
  have hp := (hX.rel i hi).plc
  unfold reachB geB
  rw [hq.has hp.1 hp.2]
  cases decide (q.1 = (X.getD i default).path) <;> cases (X.getD i default).yk <;> simp
theorem named_old {X : List RelL} (hX : IdxOk X) {q : ReqL} (hq : UpQ q) : namedI false X q = (availI X q.1).find? (geB X (leastV q.2).1) := by
  unfold namedI
  rw [if_neg (by decide), cand_avail hX hq, List.head?_filter]
theorem named_new {X : List RelL} (hX : IdxOk X) {q : ReqL} (hq : UpQ q) : namedI true X q = match (availI X q.1).getLast? with
    | some i => if geB X (leastV q.2).1 i = true then some i else none
    | none => none := by
  unfold namedI
  rw [if_pos rfl, cand_avail hX hq]
  rcases List.eq_nil_or_concat (availI X q.1) with h | ⟨l, i, h⟩
  · rw [h]; rfl
  · have hs := availI_sorted X q.1
    have hm : ∀ j ∈ availI X q.1, j < X.length ∧ q.1 = (X.getD j default).path := fun j hj => by
      unfold availI at hj
      obtain ⟨h1, h2⟩ := List.mem_filter.1 hj
      rw [Bool.and_eq_true, decide_eq_true_iff] at h2
      exact ⟨List.mem_range.1 h1, h2.1⟩
    rw [List.concat_eq_append] at h
    rw [h] at hs hm ⊢
    rw [List.filter_append, List.getLast?_append]
    have hl : (l ++ [i]).getLast? = some i := by simp
    cases hg : geB X (leastV q.2).1 i with
    | true => simp [hg]
    | false =>
      have : List.filter (geB X (leastV q.2).1) l = [] := List.filter_eq_nil_iff.2 fun j hj => by
        rw [List.pairwise_append] at hs
        have hji := hs.2.2 j hj i (by simp)
        have hi := hm i (by simp)
        have hjm := hm j (by simp [hj])
        have := hX.mono (Nat.le_of_lt hji) hi.1 (hjm.2.symm.trans hi.2)
        unfold geB at hg ⊢
        rw [decide_eq_false_iff_not] at hg
        rw [decide_eq_true_iff]
        omega
      simp [hg, this]
end Go.Proofs.YtenfkejbndifdaaGreatDoor

namespace Go.Proofs.YtenfkejbndifdaaGreatDoor
set_option linter.unusedVariables false
set_option linter.unusedSimpArgs false
open Go Go.RowKit Go.Maps

def findX (X : List RelL) (y : SelL) : Option RelL := if checkX X = 0 then findR X y else none
def tabX (X : List RelL) : List RelL := if checkX X = 0 then X else []
theorem tabX_ok (X : List RelL) : IdxOk (tabX X) := by
  unfold tabX
  split
  · rename_i h; exact idx_ok h
  · exact ⟨by simp, fun i hi => absurd hi (by simp), fun i j _ hj => absurd hj (by simp)⟩
theorem tabX_find (X : List RelL) (y : SelL) : findX X y = (lookK (tabX X) (tabX X).length y).map fun i => (tabX X).getD i default := by
  rw [← lookK_find (tabX_ok X) y]
  unfold findX tabX
  split
  · rfl
  · rfl
theorem tabX_mem {X : List RelL} {x : RelL} (h : x ∈ tabX X) : x ∈ X := by
  unfold tabX at h
  split at h
  · exact h
  · cases h
theorem TabOf.look {W : World} {B m : Nat} {X : List RelL} (h : TabOf W B m (tabX X)) : ∃ (f : Lit → Option Value) (n : Nat), MapF Tryz.prog 43 W m n f ∧
    ∀ y, SelBd y → (findX X y = none ∧ f (keyS y) = none) ∨ ∃ x r, x ∈ X ∧ findX X y = some x ∧ f (keyS y) = some (.agg (relC x r)) ∧ ReqsOf B r x.reqs W := by
  obtain ⟨f, rv, n, h1, h2, h3⟩ := h
  refine ⟨f, n, h1, fun y hy => ?_⟩
  rw [tabX_find, h2 y hy]
  cases hk : lookK (tabX X) (tabX X).length y with
  | none => exact .inl ⟨rfl, rfl⟩
  | some i =>
    have hi := (lookK_some hk).1
    refine .inr ⟨(tabX X).getD i default, rv i, tabX_mem ?_, rfl, rfl, h3 i hi⟩
    rw [List.getD_eq_getElem?_getD, List.getElem?_eq_getElem hi]
    exact List.getElem_mem hi
def FindR (w : World) (o : Option RelL) (e : Ending) (w' : World) : Prop := ∃ r', e = .returned (.tuple #[.agg (relC (o.getD default) r'), .bool o.isSome]) ∧ ReqRows w.heap.size r' (o.getD default).reqs w' ∧ RowKit.Below w.heap.size w w'
def zeroR : Value := .agg #[.string ⟨#[]⟩, .int .i64 0, .int .i64 0, .int .i64 0, .slice none 0 0, .string ⟨#[]⟩, .string ⟨#[]⟩, .string ⟨#[]⟩, .bool false]
set_option maxRecDepth 100000 in
set_option maxHeartbeats 8000000 in
theorem Find_any (v iv : Value) (X : List RelL) (y : SelL) (w : World) (hm : MaxOk w) (hX : X.length ≤ 1000000) (hq : ∀ x ∈ X, RelBd x) (hR : RelsOf w.heap.size v X w) (hy : SelBd y) :
    Calls Tryz.prog 44 #[.agg #[v, iv], .string y.1, .agg #[intC y.2.1, intC y.2.2.1, intC y.2.2.2]] w (FindR w (findX X y)) := by
  have HN := Lib.hid (fun W (hb : RowKit.Below w.heap.size w W) => newTable_any v iv X W (hm.below hb hm.pos) hX hq ((hR.below hb (Nat.le_refl _)).mono hb.size))
  have HQ := Lib.hid hq
  clear hm hR hq
  obtain ⟨o, ho⟩ : ∃ o, findX X y = o := ⟨_, rfl⟩
  have HO := Lib.hid ho
  rw [ho]
  clear ho
  have hget : ∀ (w : World) (o : Obj) (k : Nat), (w.alloc o).heap[k]? = if k = w.heap.size then some o else w.heap[k]? := fun w o k => by
    show (w.heap.push o)[k]? = _
    rw [Array.getElem?_push]
  have HG : Hid ((((w.alloc (.cells #[v, iv] 25)).alloc (.cells #[intC y.2.1, intC y.2.2.1, intC y.2.2.2] 41)).alloc (.cells #[.string ⟨#[]⟩, .int .i64 0, .int .i64 0, .int .i64 0, .slice none 0 0, .string ⟨#[]⟩, .string ⟨#[]⟩, .string ⟨#[]⟩, .bool false] 71)).heap[w.heap.size]? = some (.cells #[v, iv] 25 (0, 0)) ∧
      (((w.alloc (.cells #[v, iv] 25)).alloc (.cells #[intC y.2.1, intC y.2.2.1, intC y.2.2.2] 41)).alloc (.cells #[.string ⟨#[]⟩, .int .i64 0, .int .i64 0, .int .i64 0, .slice none 0 0, .string ⟨#[]⟩, .string ⟨#[]⟩, .string ⟨#[]⟩, .bool false] 71)).heap[w.heap.size + 1]? = some (.cells #[intC y.2.1, intC y.2.2.1, intC y.2.2.2] 41 (0, 0)) ∧
      BoxR (((w.alloc (.cells #[v, iv] 25)).alloc (.cells #[intC y.2.1, intC y.2.2.1, intC y.2.2.2] 41)).alloc (.cells #[.string ⟨#[]⟩, .int .i64 0, .int .i64 0, .int .i64 0, .slice none 0 0, .string ⟨#[]⟩, .string ⟨#[]⟩, .string ⟨#[]⟩, .bool false] 71)) (w.heap.size + 1 + 1) default (.slice none 0 0)) := Lib.hid (by
    refine ⟨?_, ?_, ?_⟩
    · simp only [hget, World.size_alloc]; repeat (first | rw [if_pos trivial] | rw [if_neg (by omega)] | rw [if_pos (by omega)])
    · simp only [hget, World.size_alloc]; repeat (first | rw [if_pos trivial] | rw [if_neg (by omega)] | rw [if_pos (by omega)])
    · unfold BoxR
      simp only [hget, World.size_alloc]; repeat (first | rw [if_pos trivial] | rw [if_neg (by omega)] | rw [if_pos (by omega)])
      rfl)
  have HBW : Hid (RowKit.Below w.heap.size w (((w.alloc (.cells #[v, iv] 25)).alloc (.cells #[intC y.2.1, intC y.2.2.1, intC y.2.2.2] 41)).alloc (.cells #[.string ⟨#[]⟩, .int .i64 0, .int .i64 0, .int .i64 0, .slice none 0 0, .string ⟨#[]⟩, .string ⟨#[]⟩, .string ⟨#[]⟩, .bool false] 71))) := Lib.hid (by repeat (first | exact Below.refl _ _ | refine Below.drew ?_ | refine Below.alloc ?_ (by simp <;> omega) _ | refine Below.setCell ?_ (by simp <;> omega) _))
  have hws : w.heap.size + 1 + 1 < (((w.alloc (.cells #[v, iv] 25)).alloc (.cells #[intC y.2.1, intC y.2.2.1, intC y.2.2.2] 41)).alloc (.cells #[.string ⟨#[]⟩, .int .i64 0, .int .i64 0, .int .i64 0, .slice none 0 0, .string ⟨#[]⟩, .string ⟨#[]⟩, .string ⟨#[]⟩, .bool false] 71)).heap.size := by simp only [World.size_alloc]; omega
  clear hget
  go_enter Tryz.func44, Tryz.ntmps44
  go_upto_region 1 with fail
  generalize ((w.alloc (.cells #[v, iv] 25)).alloc (.cells #[intC y.2.1, intC y.2.2.1, intC y.2.2.2] 41)).alloc (.cells #[.string ⟨#[]⟩, .int .i64 0, .int .i64 0, .int .i64 0, .slice none 0 0, .string ⟨#[]⟩, .string ⟨#[]⟩, .string ⟨#[]⟩, .bool false] 71) = W at *
  have c0 : W.cell? ⟨w.heap.size, 0, none⟩ = some v := cell_of_row _ _ 0 _ _ _ HG.out.1
  have c1 : W.cell? ⟨w.heap.size, 1, none⟩ = some iv := cell_of_row _ _ 1 _ _ _ HG.out.1
  go_wp2_with fail
  refine (HN.out _ HBW.out).mono ?_
  rintro e w1 ⟨m1, m2, rfl, hb1, hm1, ht1⟩
  have HB1 := Lib.hid (HBW.out.trans (hb1.mono HBW.out.size))
  have hs1 := hb1.size
  have HV1 := Lib.hid ((hb1.block (w.heap.size + 1) (by omega)).trans HG.out.2.1)
  have HZ1 := Lib.hid (HG.out.2.2.on hb1)
  have HT1 : Hid (TabOf w1 W.heap.size m1 (tabX X)) := Lib.hid ht1
  clear hb1 ht1 c0 c1 HG HBW
  have HT2 := Lib.hid (HT1.out.below (belQ w1 (.cells #[.map (some m1), .map (some m2)] 138)) hs1)
  have HN2 := Lib.hid (World.alloc_heap_new w1 (.cells #[.map (some m1), .map (some m2)] 138))
  have HV2 := Lib.hid (((belQ w1 (.cells #[.map (some m1), .map (some m2)] 138)).block (w.heap.size + 1) (by omega)).trans HV1.out)
  have HZ2 := Lib.hid (HZ1.out.on (belQ w1 (.cells #[.map (some m1), .map (some m2)] 138)))
  have HB2 := Lib.hid (HB1.out.trans ((belQ w1 (.cells #[.map (some m1), .map (some m2)] 138)).mono HB1.out.size))
  go_upto_region 2 with fail
  generalize hW2 : w1.alloc (.cells #[.map (some m1), .map (some m2)] 138) = W2 at *
  have hs2 : w1.heap.size < W2.heap.size := by rw [← hW2]; simp
  clear hW2
  have t0 : W2.cell? ⟨w1.heap.size, 0, none⟩ = some (.map (some m1)) := cell_of_row _ _ 0 _ _ _ HN2.out
  have v0 : W2.cell? ⟨w.heap.size + 1, 0, none⟩ = some (intC y.2.1) := cell_of_row _ _ 0 _ _ _ HV2.out
  have v1 : W2.cell? ⟨w.heap.size + 1, 1, none⟩ = some (intC y.2.2.1) := cell_of_row _ _ 1 _ _ _ HV2.out
  have v2 : W2.cell? ⟨w.heap.size + 1, 2, none⟩ = some (intC y.2.2.2) := cell_of_row _ _ 2 _ _ _ HV2.out
  obtain ⟨f, n, hmf, hlk⟩ := HT2.out.look
  have HLK := Lib.hid (hlk y hy)
  have HMF := Lib.hid hmf
  have HKY := Lib.hid (keyS_of hy)
  clear hlk hmf
  have HZR := Lib.hid (show ∀ W, (zeroValue 71).run Tryz.prog W = .ok zeroR W from Tryz.zeroValue71)
  obtain ⟨x, r, e1, e2, e3, e4, e5, e6⟩ : ∃ x r, (f (keyS y)).getD zeroR = .agg (relC x r) ∧ (f (keyS y)).isSome = o.isSome ∧ o.getD default = x ∧ ReqsOf W.heap.size r x.reqs W2 ∧ x.reqs.length ≤ 1000000 ∧ ∀ q ∈ x.reqs, q.2.length ≤ 1000000 := by
    rcases HLK.out with ⟨l1, l2⟩ | ⟨x, r, l1, l2, l3, l4⟩
    · rw [HO.out] at l1
      subst l1
      exact ⟨default, .slice none 0 0, by rw [l2]; rfl, by rw [l2]; rfl, rfl, ⟨none, 0, rfl, fun i q hq => by cases hq⟩, Nat.zero_le _, fun q hq => by cases hq⟩
    · rw [HO.out] at l2
      subst l2
      exact ⟨x, r, by rw [l3]; rfl, by rw [l3]; rfl, rfl, l4, (HQ.out x l1).len, fun q hq => ((HQ.out x l1).reqs q hq).2⟩
  have HE3 := Lib.hid e3
  obtain ⟨ob, hob⟩ : ∃ ob, o.isSome = ob := ⟨_, rfl⟩
  rw [hob] at e2
  have HOB := Lib.hid hob
  have hlt : W.heap.size ≤ W2.heap.size := by omega
  have HB3 := Lib.hid ((belQ W2 (.cells (relC x r) 71)))
  have HC := Lib.hid (clone_any x r (W2.alloc (.cells (relC x r) 71)) e5 e6 ((e4.below HB3.out hlt).mono (by simp; omega)))
  have HZ3 := Lib.hid (HZ2.out.on HB3.out)
  obtain ⟨ra, rc, rfl, _⟩ := e4
  clear e3 e5 e6 hob HLK
  simp only [relC_at] at e1 HC HZ3 HB3
  go_wp2_with (at_lookup; refine wpList_look_ok_F rfl _ _ 135 rfl 43 71 lawSel Tryz.underlying135 (HZR.out _) m1 n f (by rfl) HMF.out _ (keyS y) rfl HKY.out ?_; rw [e1, e2])
  refine HC.out.mono ?_
  rintro e w4 ⟨r', rfl, hr4, hb4⟩
  have HB4 := Lib.hid (HB2.out.trans ((HB3.out.trans (hb4.mono (by simp))).mono HB2.out.size))
  have HR4 := Lib.hid hr4
  have hbox := HZ3.out.on hb4
  have HBX := Lib.hid hbox
  obtain ⟨b0, b1, b2, b3, b4, b5, b6, b7, b8⟩ := hbox.cells
  have F : ∀ j, w4.frozen? ⟨w.heap.size + 1 + 1, j, none⟩ = false := fun j => frozen_of_row _ _ j _ _ hbox
  have f0 := F 0
  have f1 := F 1
  have f2 := F 2
  have f3 := F 3
  have f4 := F 4
  have f5 := F 5
  have f6 := F 6
  have f7 := F 7
  have f8 := F 8
  have hs4 := hb4.size
  clear F hbox hb4 t0 v0 v1 v2
  simp only [show (default : RelL).path = ⟨#[]⟩ from rfl, show (default : RelL).ver = (0, 0, 0) from rfl, show (default : RelL).ar = ⟨#[]⟩ from rfl, show (default : RelL).ifc = ⟨#[]⟩ from rfl, show (default : RelL).cert = ⟨#[]⟩ from rfl, show (default : RelL).yk = false from rfl] at b0 b1 b2 b3 b4 b5 b6 b7 b8
  obtain ⟨qa, qc, rfl, _⟩ := hr4.now
  have hg := setRel_grown w4 (w.heap.size + 1 + 1) x (.slice qa x.reqs.length qc)
  have hbx := setRel_box x (.slice qa x.reqs.length qc) HBX.out
  have hb5 : RowKit.Below w.heap.size w (setRel w4 (w.heap.size + 1 + 1) x (.slice qa x.reqs.length qc)) := HB4.out.grown hg HB4.out.size (fun b hb => by cases hb; omega)
  have hr5 : ReqRows w.heap.size (.slice qa x.reqs.length qc) x.reqs (setRel w4 (w.heap.size + 1 + 1) x (.slice qa x.reqs.length qc)) := (HR4.out.grown hg (fun g hg => .inl (by cases hg; simp; omega))).map (fun _ _ _ _ _ _ h => own_mono h (by simp; omega))
  have HS1 := Lib.hid hbx
  have HS2 := Lib.hid hb5
  have HS3 := Lib.hid hr5
  unfold setRel at HS1 HS2 HS3
  clear hg hbx hb5 hr5
  go_wp2_with fail
  refine bodyPost_ret (results_cell_tmp rfl _ _ (w.heap.size + 1 + 1) _ _ _ _ rfl HS1.out Tryz.underlying71 rfl (by kernel_rfl)) rfl ?_
  refine ⟨.slice qa x.reqs.length qc, by rw [HE3.out, HOB.out]; rfl, ?_, HS2.out⟩
  rw [HE3.out]
  exact HS3.out
end Go.Proofs.YtenfkejbndifdaaGreatDoor

namespace Go.Proofs.YtenfkejbndifdaaGreatDoor
set_option linter.unusedVariables false
set_option linter.unusedSimpArgs false
open Go Go.RowKit Go.Sort


theorem sort_row (B : Nat) (v : Value) (l : List Int) (w : World) (h : w.ownsRow B 3 1 v l.length (l.map intC)) (hl : l.length ≤ 1000000000) :
    Calls Tryz.prog 104 #[v] w fun e w' => e = .returned (.tuple #[]) ∧ w.grownBy w' v.ownBlock ∧ w'.ownsRow B 3 1 v (l.mergeSort fun x y => decide (x ≤ y)).length ((l.mergeSort fun x y => decide (x ≤ y)).map intC) := by
  have hlen : (l.mergeSort fun x y => decide (x ≤ y)).length = l.length := List.length_mergeSort l
  rcases h.2 with ⟨rfl, h0⟩ | ⟨g, cap, cur, rfl, hb, hg, hc, hcm, hcs, ht⟩
  · obtain rfl : l = [] := List.length_eq_zero_iff.1 h0
    refine (Tryz.slices_Sort_int_none none 0 w).mono ?_
    rintro e w' ⟨rfl, rfl⟩
    exact ⟨rfl, World.grownBy.refl _ _, by simpa using World.ownsRow_nil _ _ _ _⟩
  · refine (Tryz.slices_Sort_int g 0 cap l w (holds_of_blockI hg (by simpa using ht)) (Array.getElem?_eq_some_iff.1 hg).1 (by omega)).mono ?_
    rintro e w' ⟨rfl, n, os, rfl⟩
    refine ⟨rfl, grownBy_sortedI _, ?_⟩
    rw [hlen]
    exact ownsRow_sortedI hlen hb hg hc hcm hcs

end Go.Proofs.YtenfkejbndifdaaGreatDoor

namespace Go.Proofs.YtenfkejbndifdaaGreatDoor
set_option linter.unusedVariables false
set_option linter.unusedSimpArgs false
open Go Go.RowKit Go.Sort

def EdgesOf (B : Nat) (v : Value) (es : List (Int × Int)) (W : World) : Prop :=
  ∃ ao cap, v = .slice ao es.length cap ∧ ∀ i x, es[i]? = some x → ∃ b off, ao = some ⟨b, off, none⟩ ∧ b < B ∧ W.cell? ⟨b, off + i * 2, none⟩ = some (intC x.1) ∧ W.cell? ⟨b, off + i * 2 + 1, none⟩ = some (intC x.2)
theorem EdgesOf.below {B B' : Nat} {v : Value} {es : List (Int × Int)} {W W' : World} (h : EdgesOf B v es W) (hb : Below B' W W') (hB : B ≤ B') : EdgesOf B v es W' := by
  obtain ⟨ao, cap, rfl, h⟩ := h
  refine ⟨ao, cap, rfl, fun i x hx => ?_⟩
  obtain ⟨b, off, rfl, hlt, h1, h2⟩ := h i x hx
  exact ⟨b, off, rfl, hlt, (hb.cell (p := ⟨b, off + i * 2, none⟩) (by simp; omega)).trans h1, (hb.cell (p := ⟨b, off + i * 2 + 1, none⟩) (by simp; omega)).trans h2⟩
theorem EdgesOf.mono {B B' : Nat} {v : Value} {es : List (Int × Int)} {W : World} (h : EdgesOf B v es W) (hB : B ≤ B') : EdgesOf B' v es W := by
  obtain ⟨ao, cap, rfl, h⟩ := h
  refine ⟨ao, cap, rfl, fun i x hx => ?_⟩
  obtain ⟨b, off, rfl, hlt, h1, h2⟩ := h i x hx
  exact ⟨b, off, rfl, by omega, h1, h2⟩

theorem made_rep (z : Value) (n : Nat) : madeCells #[z] n = Array.replicate n z := by
  have := toList_madeCells_one z n
  rw [← Array.toList_replicate] at this
  exact Array.toList_inj.1 this
theorem info_ints : (Tryz.prog.info? 3).map (fun i => (i.zero, i.size, i.bytes)) = some (some (.int .i64 0), 1, 8) := by kernel_rfl
theorem info_bools : (Tryz.prog.info? 4).map (fun i => (i.zero, i.size, i.bytes)) = some (some (.bool false), 1, 1) := by kernel_rfl
theorem make_bools (n : Nat) (hn : n ≤ 1000000000) (w : World) : (Instr.makeSlice 155 (.int .i64 (n : Int)) (.int .i64 (n : Int))).run Tryz.prog w = .ok (.slice (some ⟨w.heap.size, 0, none⟩) n n) (w.alloc (.cells (Array.replicate n (.bool false)) 4)) := by
  have h := run_make_row' (P := Tryz.prog) 155 4 (.bool false) 1 Tryz.underlying155 info_bools rfl .i64 .i64 n (by omega) (by omega) w
  rw [h, made_rep]
theorem own_made (B e n : Nat) (xs : List Value) (w : World) (hB : B ≤ w.heap.size) (hn : n ≤ maxLen) (hx : xs.length = n) : (w.alloc (.cells xs.toArray e)).ownsRow B e 1 (.slice (some ⟨w.heap.size, 0, none⟩) n n) n xs := by
  subst hx
  have := World.ownsRow_lit (base := B) (e := e) (size := 1) w xs.toArray xs.length hB hn (by simp)
  simpa using this

def rawRows (N : Nat) (es : List (Int × Int)) : List (List Value) := (List.range N).map fun i => (rawL es i).map intC
def mixRows (N : Nat) (es : List (Int × Int)) (k : Nat) : List (List Value) := (List.range N).map fun i => if i < k then (sucL N es i).map natC else (rawL es i).map intC
end Go.Proofs.YtenfkejbndifdaaGreatDoor

namespace Go.Proofs.YtenfkejbndifdaaGreatDoor
set_option linter.unusedVariables false
set_option linter.unusedSimpArgs false
open Go Go.RowKit

abbrev edgeV (x : Int × Int) : Value := .agg #[intC x.1, intC x.2]
def PredE (g : Nat) (lb : Array Value) (es : List (Int × Int)) (p : Int × Int → Bool) (w : World) : Prop :=
  ∀ (W : World) (x : Int × Int), x ∈ es → Below w.heap.size w W → Calls Tryz.prog g (#[edgeV x] ++ lb) W fun e w' => e = .returned (.bool (p x)) ∧ Below w.heap.size w w'

def nodeB (N : Nat) (i : Int) : Bool := decide (0 ≤ i ∧ i < N)
end Go.Proofs.YtenfkejbndifdaaGreatDoor

namespace Go.Proofs.YtenfkejbndifdaaGreatDoor
set_option linter.unusedVariables false
set_option linter.unusedSimpArgs false
open Go Go.RowKit

theorem rowOf_open {α : Type} {enc : α → Value} {B : Nat} {v : Value} {l : List α} {W : World} (h : RowOf enc B v l W) :
    ∃ ao cap, v = .slice ao l.length cap ∧ ∀ i x, l[i]? = some x → ∃ b off, ao = some ⟨b, off, none⟩ ∧ b < B ∧ W.cell? ⟨b, off + i, none⟩ = some (enc x) := by
  rcases h with ⟨rfl, a, c, rfl⟩ | ⟨b, off, cap, rfl, hb, h⟩
  · exact ⟨a, c, rfl, fun i x hx => by simp at hx⟩
  · exact ⟨_, cap, rfl, fun i x hx => ⟨b, off, rfl, hb, h i x hx⟩⟩
def PredI (g : Nat) (lb : Array Value) (es : List (Int)) (p : Int → Bool) (w : World) : Prop :=
  ∀ (W : World) (x : Int), x ∈ es → Below w.heap.size w W → Calls Tryz.prog g (#[intC x] ++ lb) W fun e w' => e = .returned (.bool (p x)) ∧ Below w.heap.size w w'

end Go.Proofs.YtenfkejbndifdaaGreatDoor

namespace Go.Proofs.YtenfkejbndifdaaGreatDoor
set_option linter.unusedVariables false
set_option linter.unusedSimpArgs false
open Go Go.RowKit

def revE (n : Nat) (es : List (Int × Int)) : List (Int × Int) := if validG n es = true then es.map swapE else []
def revN {α : Type} (ns : List α) (es : List (Int × Int)) : List α := if validG ns.length es = true then ns else []
def edgeCells (es : List (Int × Int)) : List Value := es.flatMap fun x => [intC x.1, intC x.2]
theorem edgeCells_snoc (es : List (Int × Int)) (x : Int × Int) : edgeCells (es ++ [x]) = edgeCells es ++ [intC x.1, intC x.2] := by unfold edgeCells; rw [List.flatMap_append]; rfl
theorem edgeCells_length (es : List (Int × Int)) : (edgeCells es).length = es.length * 2 := by
  induction es with
  | nil => rfl
  | cons x es ih => show (intC x.1 :: intC x.2 :: edgeCells es).length = _; simp [ih]; omega
theorem edgeCells_get (es : List (Int × Int)) (i : Nat) (x : Int × Int) (h : es[i]? = some x) : (edgeCells es)[i * 2]? = some (intC x.1) ∧ (edgeCells es)[i * 2 + 1]? = some (intC x.2) := by
  induction es generalizing i with
  | nil => simp at h
  | cons y es ih =>
    cases i with
    | zero => simp at h; subst h; exact ⟨rfl, rfl⟩
    | succ i =>
      have := ih i (by simpa using h)
      have e : ∀ j, (edgeCells (y :: es))[j + 2]? = (edgeCells es)[j]? := fun j => rfl
      rw [show (i + 1) * 2 = i * 2 + 2 by omega, show i * 2 + 2 + 1 = (i * 2 + 1) + 2 by omega, e, e]
      exact this
theorem own_edges {W : World} {B n : Nat} {v : Value} {es : List (Int × Int)} (h : W.ownsRow B 149 2 v n (edgeCells es)) : EdgesOf W.heap.size v es W := by
  have hl : n = es.length := by have := h.1; rw [edgeCells_length] at this; omega
  subst hl
  rcases h.2 with ⟨rfl, h0⟩ | ⟨g, cap, cur, rfl, hb, hg, hc, _⟩
  · obtain rfl := List.length_eq_zero_iff.1 h0
    exact ⟨none, 0, rfl, fun i x hx => by simp at hx⟩
  · refine ⟨_, cap, rfl, fun i x hx => ⟨g, 0, rfl, (Array.getElem?_eq_some_iff.1 hg).1, ?_, ?_⟩⟩
    · have hi := (List.getElem?_eq_some_iff.1 hx).1
      rw [Nat.zero_add, h.cellAt (i * 2) (by omega)]
      exact (edgeCells_get es i x hx).1
    · have hi := (List.getElem?_eq_some_iff.1 hx).1
      rw [Nat.zero_add, h.cellAt (i * 2 + 1) (by omega)]
      exact (edgeCells_get es i x hx).2
theorem info_edges : (Tryz.prog.info? 149).map (fun i => (i.zero, i.size, i.bytes)) = some (some (.agg #[.int .i64 0, .int .i64 0]), 2, 16) := by kernel_rfl

end Go.Proofs.YtenfkejbndifdaaGreatDoor

namespace Go.Proofs.YtenfkejbndifdaaGreatDoor
set_option linter.unusedVariables false
set_option linter.unusedSimpArgs false
open Go Go.RowKit

def incrK (s : List SelL) (k : Nat) : Prop := ∀ j, j + 1 < k → ltB (s.getD j default).1 (s.getD (j + 1) default).1 = true
theorem incrK_all {s : List SelL} : incrK s s.length ↔ incrS s := by
  have hg : ∀ i (hi : i < s.length), s.getD i default = s[i] := fun i hi => by rw [List.getD_eq_getElem?_getD, List.getElem?_eq_getElem hi]; rfl
  constructor
  · intro h
    unfold incrS
    rw [List.pairwise_iff_getElem]
    intro i j hi hj hij
    obtain ⟨d, rfl⟩ : ∃ d, j = i + d + 1 := ⟨j - i - 1, by omega⟩
    clear hij
    induction d with
    | zero => have := h i (by omega); rwa [hg i hi, hg (i + 1) (by omega)] at this
    | succ d ih =>
      have := h (i + d + 1) (by omega)
      rw [hg (i + d + 1) (by omega), hg (i + d + 1 + 1) (by omega)] at this
      exact ltB_trans (ih (by omega)) this
  · intro h j hj
    rw [hg j (by omega), hg (j + 1) hj]
    exact List.pairwise_iff_getElem.1 h j (j + 1) (by omega) hj (by omega)
theorem incrK_step {s : List SelL} {k : Nat} (h : incrK s k) (h2 : 0 < k → ltB (s.getD (k - 1) default).1 (s.getD k default).1 = true) : incrK s (k + 1) := fun j hj => by
  by_cases e : j + 1 = k
  · subst e
    exact h2 (by omega)
  · exact h j (by omega)
theorem SelsOf.at {B : Nat} {ao : Option Addr} {n cap : Nat} {s : List SelL} {W : World} (h : SelsOf B (.slice ao n cap) s W) {i : Nat} (hi : i < s.length) :
    ∃ b off, ao = some ⟨b, off, none⟩ ∧ b < B ∧ W.cell? ⟨b, off + i * 4, none⟩ = some (.string (s.getD i default).1) ∧ W.cell? ⟨b, off + i * 4 + 1, none⟩ = some (intC (s.getD i default).2.1) ∧ W.cell? ⟨b, off + i * 4 + 2, none⟩ = some (intC (s.getD i default).2.2.1) ∧ W.cell? ⟨b, off + i * 4 + 3, none⟩ = some (intC (s.getD i default).2.2.2) := by
  obtain ⟨ao', cap', e, h⟩ := h
  cases e
  obtain ⟨b, off, e, h0, h1⟩ := h i s[i] (by simp [hi])
  have hg : s.getD i default = s[i] := by rw [List.getD_eq_getElem?_getD, List.getElem?_eq_getElem hi]; rfl
  rw [hg]
  exact ⟨b, off, e, h0, h1⟩
def GraphR (w : World) (g : (List ByteArray × List (Int × Int)) × Int) (e : Ending) (w' : World) : Prop :=
  ∃ nv ev, e = .returned (.tuple #[.agg #[nv, ev], .int .i64 g.2]) ∧ RowOf Value.string w'.heap.size nv g.1.1 w' ∧ EdgesOf w'.heap.size ev g.1.2 w' ∧ Below w.heap.size w w'
theorem eqs_dec (a b : ByteArray) : (a.toList == b.toList) = decide (a = b) := by
  by_cases h : a = b
  · subst h; simp
  · have : ¬ a.toList = b.toList := fun e => h (bytes_inj e)
    simp [h, this]
structure OfJ (w1 : World) (g : Nat) (s : List SelL) (k : Nat) (es : List (Int × Int)) (nv ev : Value) (W : World) : Prop where
  bel : Below w1.heap.size w1 W
  lo : w1.heap.size ≤ g
  out : W.heap[g]? = some (.cells #[nv, ev] 100 (0, 0))
  nodes : W.ownsRow (g + 1) 9 1 nv k ((s.take k).map (fun y => .string y.1))
  edges : W.ownsRow (g + 1) 149 2 ev es.length (edgeCells es)
variable {w1 : World} {g : Nat} {s : List SelL} {k : Nat} {es : List (Int × Int)} {nv ev : Value} {W : World}
end Go.Proofs.YtenfkejbndifdaaGreatDoor
