/- Waves, plain: consistent selections, moves, what is in between. -/
import Derived.Test.YtnjiibiafhnmgaaGreatDoorYH
namespace Go.Proofs.YtnjiibiafhnmgaaGreatDoor
open Go

abbrev ConsP (X : List RelL) (s : List SelL) : Prop := SatP X [] s
open Classical in
noncomputable def consV (X : List RelL) (s : List SelL) : Int :=
  if checkX X ≠ 0 ∨ ¬ incrS s then 1
  else if ∃ y ∈ s, findR X y = none then 6
  else if ∃ y ∈ s, ∃ q ∈ reqsOf X y, metB s q = false then 17 else 0
theorem consV_zero {X : List RelL} {s : List SelL} : consV X s = 0 ↔ ConsP X s := by
  unfold consV
  by_cases h1 : checkX X ≠ 0 ∨ ¬ incrS s
  · rw [if_pos h1]
    exact ⟨fun h => absurd h (by decide), fun h => h1.elim (fun e => absurd h.ok e) (fun e => absurd h.incr e)⟩
  · rw [if_neg h1]
    have hc : checkX X = 0 := Classical.byContradiction fun e => h1 (.inl e)
    have hi : incrS s := Classical.byContradiction fun e => h1 (.inr e)
    by_cases h2 : ∃ y ∈ s, findR X y = none
    · rw [if_pos h2]
      obtain ⟨y, hy, e⟩ := h2
      exact ⟨fun h => absurd h (by decide), fun h => by have := h.found y hy; rw [e] at this; cases this⟩
    · rw [if_neg h2]
      have hf : ∀ y ∈ s, (findR X y).isSome = true := fun y hy => by
        cases e : findR X y with
        | none => exact absurd ⟨y, hy, e⟩ h2
        | some r => rfl
      by_cases h3 : ∃ y ∈ s, ∃ q ∈ reqsOf X y, metB s q = false
      · rw [if_pos h3]
        obtain ⟨y, hy, q, hq, e⟩ := h3
        exact ⟨fun h => absurd h (by decide), fun h => by have := h.own y hy q hq; rw [e] at this; cases this⟩
      · rw [if_neg h3]
        refine ⟨fun _ => ⟨hc, hi, hf, fun y hy q hq => ?_, fun q hq => by cases hq⟩, fun _ => rfl⟩
        cases e : metB s q with
        | true => rfl
        | false => exact absurd ⟨y, hy, q, hq, e⟩ h3
def atS (s : List SelL) (p : ByteArray) : Option SelL := s.find? fun y => decide (y.1 = p)
theorem atS_some {s : List SelL} {p : ByteArray} {y : SelL} (h : atS s p = some y) : y ∈ s ∧ y.1 = p := ⟨List.mem_of_find?_eq_some h, of_decide_eq_true (List.find?_some (p := fun y : SelL => decide (y.1 = p)) h)⟩
theorem atS_none {s : List SelL} {p : ByteArray} : atS s p = none ↔ ∀ y ∈ s, y.1 ≠ p := by
  unfold atS
  rw [List.find?_eq_none]
  exact ⟨fun h y hy e => h y hy (decide_eq_true e), fun h y hy e => h y hy (of_decide_eq_true e)⟩
theorem incrS_one {s : List SelL} (hs : incrS s) {y z : SelL} (hy : y ∈ s) (hz : z ∈ s) (e : y.1 = z.1) : y = z := by
  obtain ⟨i, hi, rfl⟩ := List.mem_iff_getElem.1 hy
  obtain ⟨j, hj, rfl⟩ := List.mem_iff_getElem.1 hz
  rcases Nat.lt_trichotomy i j with h | h | h
  · have := List.pairwise_iff_getElem.1 hs i j hi hj h
    rw [e, ltB_irrefl] at this; cases this
  · subst h; rfl
  · have := List.pairwise_iff_getElem.1 hs j i hj hi h
    rw [e, ltB_irrefl] at this; cases this
theorem atS_mem {s : List SelL} (hs : incrS s) {y : SelL} (hy : y ∈ s) : atS s y.1 = some y := by
  cases h : atS s y.1 with
  | none => exact absurd rfl (atS_none.1 h y hy)
  | some z =>
    obtain ⟨hz, e⟩ := atS_some h
    rw [incrS_one hs hz hy e]
def plcS (s : List SelL) (p : ByteArray) : Int := match atS s p with
  | some y => plc y.2
  | none => -1
theorem metB_at {s : List SelL} (hs : incrS s) {q : ReqL} : metB s q = match atS s q.1 with
    | some y => hasB q.2 (plc y.2)
    | none => false := by
  cases h : atS s q.1 with
  | none =>
    unfold metB
    rw [List.any_eq_false]
    intro y hy e
    rw [Bool.and_eq_true] at e
    exact atS_none.1 h y hy (of_decide_eq_true e.1)
  | some y =>
    obtain ⟨hy, e⟩ := atS_some h
    show metB s q = hasB q.2 (plc y.2)
    unfold metB
    rw [Bool.eq_iff_iff, List.any_eq_true]
    constructor
    · rintro ⟨z, hz, h1⟩
      rw [Bool.and_eq_true] at h1
      have := incrS_one hs hz hy ((of_decide_eq_true h1.1).trans e.symm)
      subst this
      exact h1.2
    · intro h1
      exact ⟨y, hy, by rw [Bool.and_eq_true]; exact ⟨decide_eq_true e, h1⟩⟩
theorem met_same {s t : List SelL} (hs : incrS s) (ht : incrS t) {q : ReqL} (h : atS s q.1 = atS t q.1) : metB s q = metB t q := by rw [metB_at hs, metB_at ht, h]
instance decMemB (p : ByteArray) (m : List ByteArray) : Decidable (p ∈ m) := decidable_of_iff ((m.any fun x => decide (x = p)) = true) (by
  rw [List.any_eq_true]
  exact ⟨fun ⟨x, hx, e⟩ => of_decide_eq_true e ▸ hx, fun h => ⟨p, h, decide_eq_true rfl⟩⟩)
def IncB (l : List ByteArray) : Prop := l.Pairwise fun a b => ltB a b = true
theorem IncB.unique : ∀ {a b : List ByteArray}, IncB a → IncB b → (∀ p, p ∈ a ↔ p ∈ b) → a = b
  | [], [], _, _, _ => rfl
  | [], x :: b, _, _, h => by have := (h x).2 (by simp); cases this
  | x :: a, [], _, _, h => by have := (h x).1 (by simp); cases this
  | x :: a, y :: b, ha, hb, h => by
    obtain ⟨h1, h2⟩ := List.pairwise_cons.1 ha
    obtain ⟨h3, h4⟩ := List.pairwise_cons.1 hb
    have e : x = y := by
      rcases List.mem_cons.1 ((h x).1 (by simp)) with e | hx
      · exact e
      · rcases List.mem_cons.1 ((h y).2 (by simp)) with e | hy
        · exact e.symm
        · have g1 := h1 y hy
          have g2 := h3 x hx
          rw [ltB_asymm g1] at g2; cases g2
    subst e
    rw [IncB.unique h2 h4 fun p => ?_]
    have hp := h p
    simp only [List.mem_cons] at hp
    constructor
    · intro hm
      rcases hp.1 (.inr hm) with e | hm'
      · subst e; have := h1 p hm; rw [ltB_irrefl] at this; cases this
      · exact hm'
    · intro hm
      rcases hp.2 (.inr hm) with e | hm'
      · subst e; have := h3 p hm; rw [ltB_irrefl] at this; cases this
      · exact hm'
def mergeU : List ByteArray → List ByteArray → List ByteArray
  | [], m => m
  | a :: l, [] => a :: l
  | a :: l, b :: m => if a = b then a :: mergeU l m else if ltB a b = true then a :: mergeU l (b :: m) else b :: mergeU (a :: l) m
  termination_by l m => l.length + m.length
theorem mergeU_nil (m : List ByteArray) : mergeU [] m = m := by rw [mergeU]
theorem mergeU_none (l : List ByteArray) : mergeU l [] = l := by cases l <;> rw [mergeU]
theorem mergeU_cons (a b : ByteArray) (l m : List ByteArray) : mergeU (a :: l) (b :: m) = if a = b then a :: mergeU l m else if ltB a b = true then a :: mergeU l (b :: m) else b :: mergeU (a :: l) m := by rw [mergeU]
theorem mem_mergeU {p : ByteArray} : ∀ (l m : List ByteArray), p ∈ mergeU l m ↔ p ∈ l ∨ p ∈ m
  | [], m => by rw [mergeU_nil]; simp
  | a :: l, [] => by rw [mergeU_none]; simp
  | a :: l, b :: m => by
    rw [mergeU_cons]
    by_cases h : a = b
    · subst h
      rw [if_pos rfl, List.mem_cons, mem_mergeU l m]
      simp only [List.mem_cons]
      constructor
      · rintro (h | h | h)
        · exact .inl (.inl h)
        · exact .inl (.inr h)
        · exact .inr (.inr h)
      · rintro ((h | h) | (h | h))
        · exact .inl h
        · exact .inr (.inl h)
        · exact .inl h
        · exact .inr (.inr h)
    · rw [if_neg h]
      split
      · rw [List.mem_cons, mem_mergeU l (b :: m)]
        simp only [List.mem_cons]
        constructor
        · rintro (h | h | h)
          · exact .inl (.inl h)
          · exact .inl (.inr h)
          · exact .inr h
        · rintro ((h | h) | h)
          · exact .inl h
          · exact .inr (.inl h)
          · exact .inr (.inr h)
      · rw [List.mem_cons, mem_mergeU (a :: l) m]
        simp only [List.mem_cons]
        constructor
        · rintro (h | h | h)
          · exact .inr (.inl h)
          · exact .inl h
          · exact .inr (.inr h)
        · rintro (h | (h | h))
          · exact .inr (.inl h)
          · exact .inl h
          · exact .inr (.inr h)
  termination_by l m => l.length + m.length
theorem mergeU_inc : ∀ {l m : List ByteArray}, IncB l → IncB m → IncB (mergeU l m)
  | [], m, _, hm => by rw [mergeU_nil]; exact hm
  | a :: l, [], hl, _ => by rw [mergeU_none]; exact hl
  | a :: l, b :: m, hl, hm => by
    obtain ⟨h1, h2⟩ := List.pairwise_cons.1 hl
    obtain ⟨h3, h4⟩ := List.pairwise_cons.1 hm
    rw [mergeU_cons]
    by_cases h : a = b
    · subst h
      rw [if_pos rfl]
      refine List.pairwise_cons.2 ⟨fun x hx => ?_, mergeU_inc h2 h4⟩
      rcases (mem_mergeU l m).1 hx with hx | hx
      · exact h1 x hx
      · exact h3 x hx
    · rw [if_neg h]
      split
      · rename_i hab
        refine List.pairwise_cons.2 ⟨fun x hx => ?_, mergeU_inc h2 hm⟩
        rcases (mem_mergeU l (b :: m)).1 hx with hx | hx
        · exact h1 x hx
        · rcases List.mem_cons.1 hx with rfl | hx
          · exact hab
          · exact ltB_trans hab (h3 x hx)
      · rename_i hab
        have hba : ltB b a = true := by
          cases hb : ltB b a with
          | true => rfl
          | false => exact absurd (ltB_tri (by simpa using hab) hb) h
        refine List.pairwise_cons.2 ⟨fun x hx => ?_, mergeU_inc hl h4⟩
        rcases (mem_mergeU (a :: l) m).1 hx with hx | hx
        · rcases List.mem_cons.1 hx with rfl | hx
          · exact hba
          · exact ltB_trans hba (h1 x hx)
        · exact h3 x hx
  termination_by l m => l.length + m.length
def allP (f t : List SelL) : List ByteArray := mergeU (f.map (·.1)) (t.map (·.1))
def movesP (f t : List SelL) : List ByteArray := (allP f t).filter fun p => decide (plcS f p ≠ plcS t p)
theorem incrS_inc {s : List SelL} (h : incrS s) : IncB (s.map (·.1)) := by
  unfold IncB
  rw [List.pairwise_map]
  exact h
theorem allP_inc {f t : List SelL} (hf : incrS f) (ht : incrS t) : IncB (allP f t) := mergeU_inc (incrS_inc hf) (incrS_inc ht)
theorem movesP_inc {f t : List SelL} (hf : incrS f) (ht : incrS t) : IncB (movesP f t) := (allP_inc hf ht).sublist List.filter_sublist
theorem mem_allP {f t : List SelL} {p : ByteArray} : p ∈ allP f t ↔ atS f p ≠ none ∨ atS t p ≠ none := by
  have key : ∀ s : List SelL, p ∈ s.map (·.1) ↔ atS s p ≠ none := fun s => by
    rw [List.mem_map, ne_eq, atS_none]
    constructor
    · rintro ⟨y, hy, e⟩ h; exact h y hy e
    · intro h
      exact Classical.byContradiction fun h2 => h fun y hy e => h2 ⟨y, hy, e⟩
  unfold allP
  rw [mem_mergeU, key, key]
theorem mem_movesP {f t : List SelL} {p : ByteArray} : p ∈ movesP f t ↔ plcS f p ≠ plcS t p := by
  unfold movesP
  rw [List.mem_filter, mem_allP, decide_eq_true_iff]
  refine ⟨fun h => h.2, fun h => ⟨?_, h⟩⟩
  cases hf : atS f p with
  | some y => exact .inl (by simp)
  | none =>
    cases ht : atS t p with
    | some y => exact .inr (by simp)
    | none => exact absurd (by unfold plcS; rw [hf, ht]) h
theorem found_plc {X : List RelL} (hX : IdxOk X) {y : SelL} (h : (findR X y).isSome = true) : 0 ≤ plc y.2 := by
  obtain ⟨r, hr⟩ := Option.isSome_iff_exists.1 h
  obtain ⟨i, hi, hri, hk⟩ := findR_some hr
  have hp := (hX.rel i hi).plc
  rw [hri, show r.ver = y.2 by rw [← hk]; rfl] at hp
  exact hp.1
theorem found_inj {X : List RelL} (hX : IdxOk X) {y z : SelL} (hy : (findR X y).isSome = true) (hz : (findR X z).isSome = true) (e : y.1 = z.1) (e2 : plc y.2 = plc z.2) : y = z := by
  obtain ⟨r, hr⟩ := Option.isSome_iff_exists.1 hy
  obtain ⟨i, hi, hri, hk⟩ := findR_some hr
  obtain ⟨r2, hr2⟩ := Option.isSome_iff_exists.1 hz
  obtain ⟨j, hj, hrj, hk2⟩ := findR_some hr2
  have key : ∀ {a b : RelL}, a.path = b.path → plc a.ver = plc b.ver → ¬ RelLt a b := fun {a b} h1 h2 h => by
    rcases h with h | ⟨_, h⟩
    · rw [h1, ltB_irrefl] at h; cases h
    · omega
  have hp : r.path = r2.path := by
    have h1 : r.path = y.1 := by rw [← hk]; rfl
    have h2 : r2.path = z.1 := by rw [← hk2]; rfl
    rw [h1, h2, e]
  have hv : plc r.ver = plc r2.ver := by
    have h1 : r.ver = y.2 := by rw [← hk]; rfl
    have h2 : r2.ver = z.2 := by rw [← hk2]; rfl
    rw [h1, h2, e2]
  rcases Nat.lt_trichotomy i j with h | h | h
  · have := hX.ord i j h hj
    rw [hri, hrj] at this
    exact absurd this (key hp hv)
  · subst h
    rw [← hk, ← hk2, ← hri, ← hrj]
  · have := hX.ord j i h hi
    rw [hri, hrj] at this
    exact absurd this (key hp.symm hv.symm)
theorem at_eq {X : List RelL} {f t : List SelL} (hf : ConsP X f) (ht : ConsP X t) {p : ByteArray} (h : p ∉ movesP f t) : atS f p = atS t p := by
  have hX := idx_ok hf.ok
  have h : plcS f p = plcS t p := Classical.byContradiction fun e => h (mem_movesP.2 e)
  unfold plcS at h
  cases hy : atS f p with
  | none =>
    cases hz : atS t p with
    | none => rfl
    | some z =>
      rw [hy, hz] at h
      have h0 := found_plc hX (ht.found z (atS_some hz).1)
      have h : -1 = plc z.2 := h
      omega
  | some y =>
    have h0 := found_plc hX (hf.found y (atS_some hy).1)
    cases hz : atS t p with
    | none =>
      rw [hy, hz] at h
      have h : plc y.2 = -1 := h
      omega
    | some z =>
      rw [hy, hz] at h
      rw [found_inj hX (hf.found y (atS_some hy).1) (ht.found z (atS_some hz).1) ((atS_some hy).2.trans (atS_some hz).2.symm) h]
def betV (f t : List SelL) (m : List ByteArray) : List SelL := (allP f t).filterMap fun p => if p ∈ m then atS t p else atS f p
theorem mem_bet {f t : List SelL} {m : List ByteArray} {y : SelL} : y ∈ betV f t m ↔ (if y.1 ∈ m then atS t y.1 else atS f y.1) = some y := by
  unfold betV
  rw [List.mem_filterMap]
  constructor
  · rintro ⟨p, _, h⟩
    have e : y.1 = p := by
      split at h
      · exact (atS_some h).2
      · exact (atS_some h).2
    rw [e]; exact h
  · intro h
    refine ⟨y.1, mem_allP.2 ?_, h⟩
    split at h
    · exact .inr (by rw [h]; simp)
    · exact .inl (by rw [h]; simp)
theorem bet_incr {f t : List SelL} {m : List ByteArray} (hf : incrS f) (ht : incrS t) : incrS (betV f t m) := by
  unfold incrS betV
  rw [List.pairwise_filterMap]
  refine (allP_inc hf ht).imp fun {a b} hab y hy z hz => ?_
  have e1 : y.1 = a := by
    split at hy
    · exact (atS_some hy).2
    · exact (atS_some hy).2
  have e2 : z.1 = b := by
    split at hz
    · exact (atS_some hz).2
    · exact (atS_some hz).2
  rw [e1, e2]; exact hab
theorem bet_at {f t : List SelL} {m : List ByteArray} (hf : incrS f) (ht : incrS t) (p : ByteArray) : atS (betV f t m) p = if p ∈ m then atS t p else atS f p := by
  cases h : (if p ∈ m then atS t p else atS f p) with
  | none =>
    rw [atS_none]
    rintro y hy rfl
    rw [mem_bet, h] at hy
    cases hy
  | some y =>
    have e : y.1 = p := by
      split at h
      · exact (atS_some h).2
      · exact (atS_some h).2
    subst e
    exact atS_mem (bet_incr hf ht) (mem_bet.2 h)
def reqsS (X : List RelL) (s : List SelL) (a : ByteArray) : List ReqL := match atS s a with
  | some y => reqsOf X y
  | none => []
def clashB (X : List RelL) (s : List SelL) (a : ByteArray) (o : List SelL) (b : ByteArray) : Bool := (reqsS X s a).any fun q => decide (q.1 = b) && !metB o q
def needB (X : List RelL) (f t : List SelL) (a b : ByteArray) : Bool := decide (a ≠ b) && (clashB X t a f b || clashB X f b t a)
theorem clash_iff {X : List RelL} {s o : List SelL} {a b : ByteArray} : clashB X s a o b = true ↔ ∃ y, atS s a = some y ∧ ∃ q ∈ reqsOf X y, q.1 = b ∧ metB o q = false := by
  unfold clashB reqsS
  rw [List.any_eq_true]
  constructor
  · rintro ⟨q, hq, h⟩
    rw [Bool.and_eq_true] at h
    cases hs : atS s a with
    | none => rw [hs] at hq; cases hq
    | some y =>
      rw [hs] at hq
      exact ⟨y, rfl, q, hq, of_decide_eq_true h.1, by simpa using h.2⟩
  · rintro ⟨y, hy, q, hq, e, h⟩
    refine ⟨q, by rw [hy]; exact hq, ?_⟩
    rw [Bool.and_eq_true]
    exact ⟨decide_eq_true e, by rw [h]; rfl⟩
theorem need_iff {X : List RelL} {f t : List SelL} {a b : ByteArray} : needB X f t a b = true ↔ a ≠ b ∧ (clashB X t a f b = true ∨ clashB X f b t a = true) := by
  unfold needB
  rw [Bool.and_eq_true, decide_eq_true_iff, Bool.or_eq_true]
theorem need_back {X : List RelL} {f t : List SelL} {a b : ByteArray} : needB X t f b a = needB X f t a b := by
  rw [Bool.eq_iff_iff, need_iff, need_iff]
  exact ⟨fun ⟨h1, h2⟩ => ⟨fun e => h1 e.symm, h2.elim .inr .inl⟩, fun ⟨h1, h2⟩ => ⟨fun e => h1 e.symm, h2.elim .inr .inl⟩⟩
theorem bet_cons {X : List RelL} {f t : List SelL} {m : List ByteArray} (hf : ConsP X f) (ht : ConsP X t) :
    ConsP X (betV f t m) ↔ ∀ a ∈ movesP f t, ∀ b ∈ movesP f t, a ∈ m → b ∉ m → needB X f t a b = false := by
  have hbi := bet_incr (m := m) hf.incr ht.incr
  have yes : ∀ {q : ReqL}, q.1 ∈ m → metB (betV f t m) q = metB t q := fun {q} h => met_same hbi ht.incr (by rw [bet_at hf.incr ht.incr, if_pos h])
  have no : ∀ {q : ReqL}, q.1 ∉ m → metB (betV f t m) q = metB f q := fun {q} h => met_same hbi hf.incr (by rw [bet_at hf.incr ht.incr, if_neg h])
  have eqv : ∀ {q : ReqL}, q.1 ∉ movesP f t → metB f q = metB t q := fun {q} h => met_same hf.incr ht.incr (at_eq hf ht h)
  constructor
  · intro h a ha b hb ham hbm
    cases hn : needB X f t a b with
    | false => rfl
    | true =>
      obtain ⟨_, hc | hc⟩ := need_iff.1 hn
      · obtain ⟨y, hy, q, hq, e, hm⟩ := clash_iff.1 hc
        have hyb : y ∈ betV f t m := mem_bet.2 (by rw [(atS_some hy).2, if_pos ham]; exact hy)
        have := h.own y hyb q hq
        rw [no (by rw [e]; exact hbm), hm] at this
        cases this
      · obtain ⟨y, hy, q, hq, e, hm⟩ := clash_iff.1 hc
        have hyb : y ∈ betV f t m := mem_bet.2 (by rw [(atS_some hy).2, if_neg hbm]; exact hy)
        have := h.own y hyb q hq
        rw [yes (by rw [e]; exact ham), hm] at this
        cases this
  · intro h
    refine ⟨hf.ok, hbi, fun y hy => ?_, fun y hy q hq => ?_, fun q hq => by cases hq⟩
    · have := mem_bet.1 hy
      split at this
      · exact ht.found y (atS_some this).1
      · exact hf.found y (atS_some this).1
    · have hy2 := mem_bet.1 hy
      by_cases ham : y.1 ∈ m
      · rw [if_pos ham] at hy2
        have hyt := (atS_some hy2).1
        by_cases hbm : q.1 ∈ m
        · rw [yes hbm]; exact ht.own y hyt q hq
        · rw [no hbm]
          by_cases hbP : q.1 ∈ movesP f t
          · by_cases haP : y.1 ∈ movesP f t
            · have hn := h y.1 haP q.1 hbP ham hbm
              cases hm : metB f q with
              | true => rfl
              | false =>
                have : needB X f t y.1 q.1 = true := need_iff.2 ⟨fun e => hbm (e ▸ ham), .inl (clash_iff.2 ⟨y, hy2, q, hq, rfl, hm⟩)⟩
                rw [hn] at this; cases this
            · rw [← at_eq hf ht haP] at hy2
              exact hf.own y (atS_some hy2).1 q hq
          · rw [eqv hbP]; exact ht.own y hyt q hq
      · rw [if_neg ham] at hy2
        have hyf := (atS_some hy2).1
        by_cases hbm : q.1 ∈ m
        · rw [yes hbm]
          by_cases hbP : q.1 ∈ movesP f t
          · by_cases haP : y.1 ∈ movesP f t
            · have hn := h q.1 hbP y.1 haP hbm ham
              cases hm : metB t q with
              | true => rfl
              | false =>
                have : needB X f t q.1 y.1 = true := need_iff.2 ⟨fun e => ham (e ▸ hbm), .inr (clash_iff.2 ⟨y, hy2, q, hq, rfl, hm⟩)⟩
                rw [hn] at this; cases this
            · rw [at_eq hf ht haP] at hy2
              exact ht.own y (atS_some hy2).1 q hq
          · rw [← eqv hbP]; exact hf.own y hyf q hq
        · rw [no hbm]; exact hf.own y hyf q hq
def wavE (X : List RelL) (f t : List SelL) : List (Int × Int) := (List.range (movesP f t).length).flatMap fun i => (List.range (movesP f t).length).filterMap fun k => if needB X f t ((movesP f t).getD i default) ((movesP f t).getD k default) = true then some ((i : Int), (k : Int)) else none
theorem mem_wavE {X : List RelL} {f t : List SelL} {e : Int × Int} : e ∈ wavE X f t ↔ ∃ i k, i < (movesP f t).length ∧ k < (movesP f t).length ∧ needB X f t ((movesP f t).getD i default) ((movesP f t).getD k default) = true ∧ e = ((i : Int), (k : Int)) := by
  unfold wavE
  rw [List.mem_flatMap]
  constructor
  · rintro ⟨i, hi, h⟩
    obtain ⟨k, hk, h⟩ := List.mem_filterMap.1 h
    split at h
    · rename_i hn
      exact ⟨i, k, List.mem_range.1 hi, List.mem_range.1 hk, hn, (Option.some.inj h).symm⟩
    · cases h
  · rintro ⟨i, k, hi, hk, hn, rfl⟩
    exact ⟨i, List.mem_range.2 hi, List.mem_filterMap.2 ⟨k, List.mem_range.2 hk, if_pos hn⟩⟩
end Go.Proofs.YtnjiibiafhnmgaaGreatDoor
