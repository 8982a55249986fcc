/- Waves, plain: right plans consist of whole groups; the way back; without requirements. Contract of the graph's iterator over the successors of a node. -/
import Derived.Test.YtnjiibiafhnmgaaGreatDoorYS
import Derived.Test.YtnjiibiafhnmgaaGreatDoorYF
import Derived.Test.YtnjiibiafhnmgaaGreatDoorYD
import Derived.Test.YtnjiibiafhnmgaaGreatDoorYQ
import Derived.Maps.Range
import Derived.ArgAppend
import Derived.RangeFuncLeaves
namespace Go.Proofs.YtnjiibiafhnmgaaGreatDoor
open Go

structure CompP (N : Nat) (es : List (Int × Int)) (L : List (List Nat)) (pos : Nat → Nat) : Prop where
  part : PartP N es L pos
  same : ∀ a b, a < N → b < N → (pos a = pos b ↔ Rch (sucs N es) a b ∧ Rch (sucs N es) b a)
theorem bet_none {f t : List SelL} {X : List RelL} (cf : ConsP X f) (ct : ConsP X t) : betV f t [] = f := by
  have h := bet_all cf.incr cf.incr (m := []) cf cf (fun p hp => by rw [moves_self] at hp; cases hp)
  have key : ∀ y, y ∈ betV f t [] ↔ y ∈ betV f f [] := fun y => by rw [mem_bet, mem_bet, if_neg (by simp), if_neg (by simp)]
  have e : (betV f t []).map (·.1) = (betV f f []).map (·.1) := IncB.unique (incrS_inc (bet_incr cf.incr ct.incr)) (incrS_inc (bet_incr cf.incr cf.incr)) fun p => by
    rw [List.mem_map, List.mem_map]
    exact ⟨fun ⟨y, hy, e⟩ => ⟨y, (key y).1 hy, e⟩, fun ⟨y, hy, e⟩ => ⟨y, (key y).2 hy, e⟩⟩
  refine Eq.trans ?_ h
  have hl : (betV f t []).length = (betV f f []).length := by have := congrArg List.length e; simpa using this
  refine List.ext_getElem hl fun i h1 h2 => ?_
  have e1 : (betV f t [])[i].1 = (betV f f [])[i].1 := by
    have := congrArg (fun l : List ByteArray => l[i]?) e
    simp only [List.getElem?_map, List.getElem?_eq_getElem h1, List.getElem?_eq_getElem h2, Option.map_some] at this
    exact Option.some.inj this
  exact incrS_one (bet_incr cf.incr cf.incr) ((key _).1 (List.getElem_mem h1)) (List.getElem_mem h2) e1
theorem PlanP.rch {X : List RelL} {f t : List SelL} (hf : ConsP X f) (ht : ConsP X t) {plan : List (List ByteArray)} (h : PlanP X f t plan) {a b : Nat} (hr : Rch (sucs (movesP f t).length (wavE X f t)) a b) : a < (movesP f t).length → b < (movesP f t).length → ∀ {i j : Nat} (hi : i < plan.length) (hj : j < plan.length), (movesP f t).getD a default ∈ plan[i] → (movesP f t).getD b default ∈ plan[j] → j ≤ i := by
  induction hr with
  | refl a => intro ha _ i j hi hj h1 h2; exact Nat.le_of_eq (h.one hj hi h2 h1)
  | @step a c b hc _ ih =>
    intro ha hb i j hi hj h1 h2
    obtain ⟨_, hcN, he⟩ := mem_sucs.1 hc
    obtain ⟨x, y, hx, hy, hn, e⟩ := mem_wavE.1 he
    have e1 := (Prod.mk.inj e).1
    have e2 := (Prod.mk.inj e).2
    obtain rfl : a = x := by omega
    obtain rfl : c = y := by omega
    obtain ⟨k, hk, hm⟩ := h.spot (getD_mem hcN)
    have g1 := h.down hf ht (getD_mem ha) (getD_mem hcN) hn hi hk h1 hm
    have g2 := ih hcN hb hk hj hm h2
    omega
theorem whole_in {X : List RelL} {f t : List SelL} (hf : ConsP X f) (ht : ConsP X t) {plan : List (List ByteArray)} (h : PlanP X f t plan) {L : List (List Nat)} {pos : Nat → Nat} (hc : CompP (movesP f t).length (wavE X f t) L pos) {row : List Nat} (hrow : row ∈ L) :
    ∀ a ∈ row, ∀ b ∈ row, ∀ i, (hi : i < plan.length) → (movesP f t).getD a default ∈ plan[i] → (movesP f t).getD b default ∈ plan[i] := by
  obtain ⟨g, hg⟩ := List.mem_iff_getElem?.1 hrow
  intro a ha b hb i hi hm
  obtain ⟨ha1, ha2⟩ := (hc.part.mem g row hg a).1 ha
  obtain ⟨hb1, hb2⟩ := (hc.part.mem g row hg b).1 hb
  obtain ⟨h1, h2⟩ := (hc.same a b ha1 hb1).1 (ha2.trans hb2.symm)
  obtain ⟨j, hj, hmj⟩ := h.spot (getD_mem hb1)
  have g1 := h.rch hf ht h1 ha1 hb1 hi hj hm hmj
  have g2 := h.rch hf ht h2 hb1 ha1 hj hi hmj hm
  obtain rfl : i = j := by omega
  exact hmj
theorem whole_len {X : List RelL} {f t : List SelL} (hf : ConsP X f) (ht : ConsP X t) {plan : List (List ByteArray)} (h : PlanP X f t plan) {L : List (List Nat)} {pos : Nat → Nat} (hc : CompP (movesP f t).length (wavE X f t) L pos) : plan.length ≤ L.length := by
  have hP := movesP_inc hf.incr ht.incr
  have hex : ∀ i, i < plan.length → ∃ x, x < (movesP f t).length ∧ ∃ hi : i < plan.length, (movesP f t).getD x default ∈ plan[i] := fun i hi => by
    obtain ⟨hne, _⟩ := h.ne _ (List.getElem_mem hi)
    obtain ⟨p, l, e⟩ := List.exists_cons_of_ne_nil hne
    have hp : p ∈ plan[i] := by rw [e]; simp
    obtain ⟨x, hx, rfl⟩ := mem_getD ((h.mem p).1 (List.mem_flatten.2 ⟨_, List.getElem_mem hi, hp⟩))
    exact ⟨x, hx, hi, hp⟩
  have hch : ∃ F : Nat → Nat, ∀ i, i < plan.length → F i < (movesP f t).length ∧ ∃ hi : i < plan.length, (movesP f t).getD (F i) default ∈ plan[i] :=
    ⟨fun i => @dite _ (i < plan.length) (Classical.propDecidable _) (fun hi => (hex i hi).choose) (fun _ => 0), fun i hi => by
      show (@dite _ (i < plan.length) (Classical.propDecidable _) (fun hi => (hex i hi).choose) (fun _ => 0)) < _ ∧ ∃ hi : i < plan.length, (movesP f t).getD (@dite _ (i < plan.length) (Classical.propDecidable _) (fun hi => (hex i hi).choose) (fun _ => 0)) default ∈ plan[i]
      rw [dif_pos hi]
      exact (hex i hi).choose_spec⟩
  obtain ⟨F, hF⟩ := hch
  have hn : ((List.range plan.length).map fun i => pos (F i)).Nodup := by
    unfold List.Nodup
    rw [List.pairwise_map]
    refine List.pairwise_lt_range.imp_of_mem fun {i j} hi hj hij e => ?_
    obtain ⟨h1, hi', m1⟩ := hF i (List.mem_range.1 hi)
    obtain ⟨h2, hj', m2⟩ := hF j (List.mem_range.1 hj)
    obtain ⟨r1, r2⟩ := (hc.same _ _ h1 h2).1 e
    have g1 := h.rch hf ht r1 h1 h2 hi' hj' m1 m2
    have g2 := h.rch hf ht r2 h2 h1 hj' hi' m2 m1
    omega
  have := sub_length hn (m := List.range L.length) fun a ha => by
    obtain ⟨i, hi, rfl⟩ := List.mem_map.1 ha
    exact List.mem_range.2 (hc.part.lt _ (hF i (List.mem_range.1 hi)).1)
  simpa using this
theorem rch_back {N : Nat} {es es' : List (Int × Int)} (h : ∀ i k : Nat, ((i : Int), (k : Int)) ∈ es' ↔ ((k : Int), (i : Int)) ∈ es) {a b : Nat} (hr : Rch (sucs N es) a b) : Rch (sucs N es') b a := by
  induction hr with
  | refl a => exact .refl a
  | @step a c b hc _ ih =>
    obtain ⟨h1, h2, h3⟩ := mem_sucs.1 hc
    exact ih.trans (.step (mem_sucs.2 ⟨h2, h1, (h c a).2 h3⟩) (.refl a))
theorem lt_unique : ∀ {a b : List Nat}, a.Pairwise (· < ·) → b.Pairwise (· < ·) → (∀ n, n ∈ a ↔ n ∈ b) → a = b
  | [], [], _, _, _ => rfl
  | [], x :: b, _, _, h => by have := (h x).2 (by simp); cases this
  | x :: a, [], _, _, h => by have := (h x).1 (by simp); cases this
  | x :: a, y :: b, ha, hb, h => by
    obtain ⟨h1, h2⟩ := List.pairwise_cons.1 ha
    obtain ⟨h3, h4⟩ := List.pairwise_cons.1 hb
    have e : x = y := by
      rcases List.mem_cons.1 ((h x).1 (by simp)) with e | hx
      · exact e
      · rcases List.mem_cons.1 ((h y).2 (by simp)) with e | hy
        · exact e.symm
        · have g1 := h1 y hy
          have g2 := h3 x hx
          omega
    subst e
    rw [lt_unique h2 h4 fun p => ?_]
    have hp := h p
    simp only [List.mem_cons] at hp
    constructor
    · intro hm
      rcases hp.1 (.inr hm) with e | hm'
      · have := h1 p hm; omega
      · exact hm'
    · intro hm
      rcases hp.2 (.inr hm) with e | hm'
      · have := h3 p hm; omega
      · exact hm'
theorem back_sub {N : Nat} {es es' : List (Int × Int)} (h : ∀ i k : Nat, ((i : Int), (k : Int)) ∈ es' ↔ ((k : Int), (i : Int)) ∈ es) {L M : List (List Nat)} {pos pos' : Nat → Nat} (hc : CompP N es L pos) (hd : CompP N es' M pos') : ∀ row ∈ L, row ∈ M := by
  have hb : ∀ i k : Nat, ((i : Int), (k : Int)) ∈ es ↔ ((k : Int), (i : Int)) ∈ es' := fun i k => (h k i).symm
  intro row hrow
  obtain ⟨g, hg⟩ := List.mem_iff_getElem?.1 hrow
  obtain ⟨h1, h2⟩ := hc.part.srt g row hg
  obtain ⟨a, l, e⟩ := List.exists_cons_of_ne_nil (fun e : row = [] => by rw [e] at h2; simp at h2)
  have ham : a ∈ row := by rw [e]; simp
  obtain ⟨ha1, ha2⟩ := (hc.part.mem g row hg a).1 ham
  have hl := hd.part.lt a ha1
  have hr2 := hd.part.srt (pos' a) _ (List.getElem?_eq_getElem hl)
  have : row = M[pos' a] := lt_unique h1 hr2.1 fun n => by
    rw [hc.part.mem g row hg n, hd.part.mem (pos' a) _ (List.getElem?_eq_getElem hl) n]
    refine and_congr_right fun hn => ?_
    rw [← ha2, hc.same n a hn ha1, hd.same n a hn ha1]
    exact ⟨fun ⟨x, y⟩ => ⟨rch_back h y, rch_back h x⟩, fun ⟨x, y⟩ => ⟨rch_back hb y, rch_back hb x⟩⟩
  rw [this]
  exact List.getElem_mem hl
theorem part_nodup {N : Nat} {es : List (Int × Int)} {L : List (List Nat)} {pos : Nat → Nat} (h : PartP N es L pos) : L.Nodup := by
  unfold List.Nodup
  rw [List.pairwise_iff_getElem]
  intro i j hi hj hij e
  obtain ⟨_, h2⟩ := h.srt i _ (List.getElem?_eq_getElem hi)
  obtain ⟨a, ha⟩ := List.exists_mem_of_length_pos h2
  have h3 := (h.mem i _ (List.getElem?_eq_getElem hi) a).1 ha
  have h4 := (h.mem j _ (List.getElem?_eq_getElem hj) a).1 (e ▸ ha)
  omega
theorem back_len {N : Nat} {es es' : List (Int × Int)} (h : ∀ i k : Nat, ((i : Int), (k : Int)) ∈ es' ↔ ((k : Int), (i : Int)) ∈ es) {L M : List (List Nat)} {pos pos' : Nat → Nat} (hc : CompP N es L pos) (hd : CompP N es' M pos') : L.length = M.length :=
  Nat.le_antisymm (sub_length (part_nodup hc.part) (back_sub h hc hd)) (sub_length (part_nodup hd.part) (back_sub (fun i k => (h k i).symm) hd hc))
theorem part_none {es : List (Int × Int)} {L : List (List Nat)} {pos : Nat → Nat} (h : PartP 0 es L pos) : L = [] := by
  cases L with
  | nil => rfl
  | cons row L =>
    obtain ⟨_, h2⟩ := h.srt 0 row rfl
    obtain ⟨a, ha⟩ := List.exists_mem_of_length_pos h2
    exact absurd ((h.mem 0 row rfl a).1 ha).1 (Nat.not_lt_zero a)
theorem comp_one {N : Nat} {L : List (List Nat)} {pos : Nat → Nat} (h : CompP N [] L pos) {row : List Nat} (hrow : row ∈ L) : row.length = 1 := by
  obtain ⟨g, hg⟩ := List.mem_iff_getElem?.1 hrow
  obtain ⟨h1, h2⟩ := h.part.srt g row hg
  have key : ∀ a b, Rch (sucs N []) a b → a = b := fun a b hr => by
    cases hr with
    | refl => rfl
    | step hc _ => have := (mem_sucs.1 hc).2.2; cases this
  match row, h2, hg, h1 with
  | [a], _, _, _ => rfl
  | a :: b :: l, _, hg, h1 =>
    obtain ⟨ha1, ha2⟩ := (h.part.mem g _ hg a).1 (by simp)
    obtain ⟨hb1, hb2⟩ := (h.part.mem g _ hg b).1 (by simp)
    have := key a b ((h.same a b ha1 hb1).1 (ha2.trans hb2.symm)).1
    have h3 := (List.pairwise_cons.1 h1).1 b (by simp)
    omega
theorem nodup_card {α : Type} [DecidableEq α] {l m : List α} (h1 : l.Nodup) (h2 : m.Nodup) (h : ∀ a, a ∈ l ↔ a ∈ m) : l.length = m.length :=
  Nat.le_antisymm (sub_length h1 fun a ha => (h a).1 ha) (sub_length h2 fun a ha => (h a).2 ha)
theorem wavE_nodup (X : List RelL) (f t : List SelL) : (wavE X f t).Nodup := by
  unfold wavE List.Nodup
  rw [List.pairwise_flatMap]
  refine ⟨fun i _ => ?_, List.pairwise_lt_range.imp fun {i j} hij x hx y hy e => ?_⟩
  · rw [List.pairwise_filterMap]
    refine List.pairwise_lt_range.imp fun {a b} hab x hx y hy e => ?_
    split at hx
    · split at hy
      · cases hx
        cases hy
        have := (Prod.mk.inj e).2
        omega
      · cases hy
    · cases hx
  · obtain ⟨a, _, ha⟩ := List.mem_filterMap.1 hx
    obtain ⟨b, _, hb⟩ := List.mem_filterMap.1 hy
    split at ha
    · split at hb
      · cases ha
        cases hb
        have := (Prod.mk.inj e).1
        omega
      · cases hb
    · cases ha
theorem wavE_len {X : List RelL} {f t : List SelL} (hf : incrS f) (ht : incrS t) : (wavE X t f).length = (wavE X f t).length := by
  have h1 : ((wavE X t f).map fun e : Int × Int => (e.2, e.1)).Nodup := by
    unfold List.Nodup
    rw [List.pairwise_map]
    exact (wavE_nodup X t f).imp fun {a b} hab e => hab (Prod.ext (Prod.mk.inj e).2 (Prod.mk.inj e).1)
  have := nodup_card h1 (wavE_nodup X f t) fun e => by
    rw [List.mem_map]
    constructor
    · rintro ⟨a, ha, rfl⟩
      obtain ⟨i, k, _, _, _, rfl⟩ := mem_wavE.1 ha
      exact (wavE_back hf ht).1 ha
    · intro he
      obtain ⟨i, k, _, _, _, rfl⟩ := mem_wavE.1 he
      exact ⟨((k : Int), (i : Int)), (wavE_back hf ht).2 he, rfl⟩
  rwa [List.length_map] at this
end Go.Proofs.YtnjiibiafhnmgaaGreatDoor

namespace Go.Proofs.YtnjiibiafhnmgaaGreatDoor
set_option linter.unusedVariables false
set_option linter.unusedSimpArgs false
open Go Go.RowKit

abbrev OfT (S : List (List Nat)) (node least : Nat) := { k : Nat // k ∈ ofL S node least }
def valsOf {S : List (List Nat)} {node least : Nat} (l : List (OfT S node least)) : List Nat := l.map (·.1)
theorem valsOf_snoc {S : List (List Nat)} {node least : Nat} (l : List (OfT S node least)) (x : OfT S node least) : valsOf (l ++ [x]) = valsOf l ++ [x.1] := by simp [valsOf]
theorem valsOf_length {S : List (List Nat)} {node least : Nat} (l : List (OfT S node least)) : (valsOf l).length = l.length := by simp [valsOf]
theorem pref_cast {a a' b b' : List Nat} (h : a <+: b) (ha : a = a') (hb : b = b') : a' <+: b' := by subst ha hb; exact h
theorem len_cast {b b' : List Nat} {n : Nat} (h : n < b.length) (hb : b = b') : n < b'.length := by subst hb; exact h
theorem mem_cast {b b' : List Nat} {n : Nat} (h : n ∈ b) (hb : b = b') : n ∈ b' := by subst hb; exact h
def encOf {S : List (List Nat)} {node least : Nat} (x : OfT S node least) : Array Value := #[natC x.1]
theorem filter_take (p : Nat → Bool) (l : List Nat) (k : Nat) (h : k < l.length) : (l.take (k + 1)).filter p = if p l[k] then (l.take k).filter p ++ [l[k]] else (l.take k).filter p := by
  rw [List.take_succ_eq_append_getElem h, List.filter_append]
  by_cases hp : p l[k] <;> simp [hp]
theorem filter_pref (p : Nat → Bool) (l : List Nat) (k : Nat) : (l.take k).filter p <+: l.filter p := by
  obtain ⟨t, ht⟩ := List.take_prefix k l
  refine ⟨t.filter p, ?_⟩
  conv => rhs; rw [← ht]
  rw [List.filter_append]

attribute [local go_sem] Oper.semAt_some

set_option maxRecDepth 100000 in
set_option maxHeartbeats 4000000 in
theorem of1_in (n : Nat) (hn : 1 ≤ n) (l Bs B0 : Nat) (v : Value) (S : List (List Nat)) (node least : Nat) (J Jx : List (OfT S node least) → World → Prop) (W0 : World) (hnode : node < S.length) (hS63 : S.length ≤ 1000000000) (hl63 : (S.getD node []).length ≤ 1000000000)
    (hJ : AbidesFrom W0.heap.size J)
    (hY : ∀ pre x W, J pre W → pre.length < (ofL S node least).length → YieldAt Fence.wide (n - 1) Tryz.prog l (encOf x) W fun e W' =>
      (e = .returned (.bool true) ∧ J (pre ++ [x]) W' ∧ KpB (Bs + 1 + 1) B0 W W') ∨ (e = .returned (.bool false) ∧ Jx (pre ++ [x]) W'))
    (h0b : Boxed W0 Bs 122 v) (h1b : Boxed W0 (Bs + 1) 3 (natC node)) (h2b : Boxed W0 (Bs + 1 + 1) 3 (natC least)) (hR : RowsOf B0 v S W0) (h0 : J [] W0) :
    CallsIn Fence.wide n Tryz.prog 141 #[.func (.yield l) #[] #[], .pointer (some ⟨Bs, 0, none⟩), .pointer (some ⟨Bs + 1, 0, none⟩), .pointer (some ⟨Bs + 1 + 1, 0, none⟩)] W0 fun e W' => (∃ v, e = .returned v) ∧
      ((∃ ys : List (OfT S node least), valsOf ys = ofL S node least ∧ J ys W') ∨ (∃ pre : List (OfT S node least), valsOf pre <+: ofL S node least ∧ Jx pre W')) := by
  rcases hR with ⟨rfl, _⟩ | ⟨b, off, cap, rfl, hbB, hR⟩
  · simp at hnode
  obtain ⟨r, hr, hrow⟩ := hR node (S[node]) (by simp [hnode])
  have hg : S.getD node [] = S[node] := by simp [hnode]
  generalize S[node] = L at *
  have hc0 := h0b.cell
  have hc1 := h1b.cell
  have hc2 := h2b.cell
  have hlt2 := h2b.lt
  have hx0 : (0 : Int) ≤ (node : Int) := Int.natCast_nonneg _
  have hx1 : (node : Int) < (S.length : Int) := by omega
  have HB2 := Lib.hid h2b
  have HY := Lib.hid hY
  have HJ := Lib.hid hJ
  have HO : Hid (ofL S node least = L.filter (fun k => decide (least ≤ k))) := Lib.hid (by unfold ofL; rw [hg])
  have HG := Lib.hid hg
  clear hY hJ h2b hR hg
  refine callsIn_of_wp Tryz.func141 rfl trivial ?_ rfl
  simp only [Tryz.ntmps141, List.size_toArray, List.length_cons, List.length_nil, Nat.reduceAdd, Nat.reduceSub, Array.replicate_succ, Array.replicate_zero, List.push_toArray, List.append_toArray, List.nil_append, List.cons_append]
  rcases hrow with ⟨rfl, a', c', rfl⟩ | ⟨b', off', cap', rfl, hbB', hrow⟩
  · gi_wp2
    gi_loopw [12] (fun p wr => p = .int .i64 0 ∧ Hid (J [] wr)) (fun _ _ => 0)
    case atStart => exact ⟨rfl, Lib.hid h0⟩
    case round =>
      clear h0
      obtain ⟨rfl, HJ0⟩ := hrel
      gi_wp2
      go_end0
      exact ⟨⟨_, rfl⟩, .inl ⟨[], Eq.trans rfl HO.out.symm, HJ0.out⟩⟩
  · rw [HG.out] at hl63
    have HROW := Lib.hid hrow
    clear hrow
    gi_wp2
    gi_loopw [12] (fun p wr => ∃ (k : Nat) (ys : List (OfT S node least)), k ≤ L.length ∧ p = .int .i64 k ∧ Hid (valsOf ys = (L.take k).filter (fun k => decide (least ≤ k))) ∧ Hid (J ys wr) ∧ Hid (Boxed wr (Bs + 1 + 1) 3 (natC least)) ∧ Hid (Below B0 W0 wr)) (fun p _ => L.length - (intOf p).toNat)
    case atStart => exact ⟨0, [], by omega, rfl, Lib.hid rfl, Lib.hid h0, HB2, Lib.hid (Below.refl _ _)⟩
    case round =>
      clear h0 HB2 hc0 hc1 hc2
      obtain ⟨k, ys, hk, rfl, HYS, HJy, HB2, HBW⟩ := hrel
      by_cases hlt : k < L.length
      · have hcl := (HBW.out.cell (p := ⟨b', off' + k, none⟩) (by simp; omega)).trans (HROW.out k L[k] (by simp [hlt]))
        have hc2 := HB2.out.cell
        have HFT := Lib.hid (filter_take (fun k => decide (least ≤ k)) L k hlt)
        have HMEM : Hid (L[k] ∈ L) := Lib.hid (List.getElem_mem hlt)
        generalize L[k] = x at *
        by_cases hge : least ≤ x
        · have hge2 : (least : Int) ≤ (x : Int) := by omega
          have HX : Hid (x ∈ ofL S node least) := Lib.hid (mem_cast (List.mem_filter.2 ⟨HMEM.out, by simpa using hge⟩) HO.out.symm)
          have HL : Hid (ys.length < (ofL S node least).length) := Lib.hid (len_cast (by
            have e := congrArg List.length HYS.out
            rw [valsOf_length] at e
            have e2 := (filter_pref (fun k => decide (least ≤ k)) L (k + 1)).length_le
            rw [HFT.out, if_pos (by simpa using hge), List.length_append] at e2
            simp at e e2 ⊢
            omega) HO.out.symm)
          obtain ⟨fn, tmps, assign, body, hy, hR⟩ := HY.out ys ⟨x, HX.out⟩ wr HJy.out HL.out
          unfold encOf at hy
          dsimp only at hy
          gi_wp2_with fail
          refine hR.mono ?_
          rintro e W' (⟨rfl, hJ', hk'⟩ | ⟨rfl, hJx'⟩)
          · have HB3 : Hid (Boxed W' (Bs + 1 + 1) 3 (natC least)) := Lib.hid (hk'.1.trans HB2.out)
            have HBW3 : Hid (Below B0 W0 W') := Lib.hid (HBW.out.trans hk'.2)
            have HJ3 := Lib.hid hJ'
            clear hJ' hk' hR hy
            gi_wp2_with fail
            go_roundw
            case rel => exact ⟨k + 1, ys ++ [⟨x, HX.out⟩], by omega, by go_num, Lib.hid (by rw [HFT.out, if_pos (by simpa using hge), valsOf_snoc, HYS.out]), HJ3, HB3, HBW3⟩
            case measure => simp [intOf]; omega
          · have HJ3 := Lib.hid hJx'
            clear hJx' hR hy
            gi_wp2_with fail
            refine bodyPost_ret (results_none rfl _ _ _) rfl ?_
            refine ⟨⟨_, rfl⟩, .inr ⟨ys ++ [⟨x, HX.out⟩], ?_, HJ3.out⟩⟩
            have e2 := filter_pref (fun k => decide (least ≤ k)) L (k + 1)
            rw [HFT.out, if_pos (by simpa using hge), ← HYS.out] at e2
            exact pref_cast e2 (valsOf_snoc ys ⟨x, HX.out⟩).symm HO.out.symm
        · have hge2 : ¬ (least : Int) ≤ (x : Int) := by omega
          gi_wp2_with fail
          refine ⟨fun _ h => (by cases h), ?_⟩
          gi_wp2_with fail
          go_roundw
          case rel => exact ⟨k + 1, ys, by omega, by go_num, Lib.hid (by rw [HFT.out, if_neg (by simpa using hge)]; exact HYS.out), HJy, HB2, HBW⟩
          case measure => simp [intOf]; omega
      · have hkk : k = L.length := by omega
        subst hkk
        gi_wp2
        go_end0
        refine ⟨⟨_, rfl⟩, .inl ⟨ys, ?_, HJy.out⟩⟩
        have := HYS.out
        rw [List.take_length] at this
        exact this.trans HO.out.symm

theorem of_stops (n : Nat) (hn : 1 ≤ n) (Bs B0 : Nat) (v : Value) (S : List (List Nat)) (node least : Nat) (hnode : node < S.length) (hS63 : S.length ≤ 1000000000) (hl63 : (S.getD node []).length ≤ 1000000000) (w : World)
    (h0 : Boxed w Bs 122 v) (h1 : Boxed w (Bs + 1) 3 (natC node)) (h2 : Boxed w (Bs + 1 + 1) 3 (natC least)) (hR : RowsOf B0 v S w) (hB0 : B0 ≤ w.heap.size) :
    SeqStopsK Fence.wide n Tryz.prog 141 #[.pointer (some ⟨Bs, 0, none⟩), .pointer (some ⟨Bs + 1, 0, none⟩), .pointer (some ⟨Bs + 1 + 1, 0, none⟩)] (encOf (S := S) (node := node) (least := least)) (KpB (Bs + 1 + 1) B0)
      (fun ys => valsOf ys = ofL S node least) (fun pre => valsOf pre <+: ofL S node least) (ofL S node least).length w := fun l J Jx W hW hJ _ hY hj =>
  of1_in n hn l Bs B0 v S node least J Jx W hnode hS63 hl63 hJ hY ((hW.block _ h0.lt).trans h0) ((hW.block _ h1.lt).trans h1) ((hW.block _ h2.lt).trans h2) (hR.below hW hB0) hj
end Go.Proofs.YtnjiibiafhnmgaaGreatDoor

namespace Go.Proofs.YtnjiibiafhnmgaaGreatDoor
set_option linter.unusedVariables false
set_option linter.unusedSimpArgs false
open Go Go.RowKit

def Flags (W : World) (g : Nat) (l : List Bool) : Prop := W.heap[g]? = some (.cells (l.map Value.bool).toArray 4 (0, 0))
theorem Flags.cell {W : World} {g : Nat} {l : List Bool} (h : Flags W g l) (i : Nat) (b : Bool) (hb : l[i]? = some b) : W.cell? ⟨g, i, none⟩ = some (.bool b) := by
  rw [cell_of_row _ _ _ _ _ _ h]
  simp [hb]
theorem Flags.set {W : World} {g : Nat} {l : List Bool} (h : Flags W g l) (i : Nat) (b : Bool) : Flags (W.setCell ⟨g, i, none⟩ (.bool b)) g (l.set i b) := by
  have := heap_setCell_same W g i _ _ (.bool b) h
  unfold Flags
  rw [this]
  simp [List.map_set]
end Go.Proofs.YtnjiibiafhnmgaaGreatDoor

namespace Go.Proofs.YtnjiibiafhnmgaaGreatDoor
set_option linter.unusedVariables false
set_option linter.unusedSimpArgs false
open Go Go.RowKit

def marked (l : List Bool) : List Nat := (List.range l.length).filter fun i => l.getD i false
def ReachS (N : Nat) (es : List (Int × Int)) (from_ : List Int) (l : List Nat) : Prop := l.Pairwise (· < ·) ∧ ∀ k, k ∈ l ↔ k < N ∧ ∃ a : Nat, (a : Int) ∈ from_ ∧ Rch (sucs N es) a k
end Go.Proofs.YtnjiibiafhnmgaaGreatDoor

namespace Go.Proofs.YtnjiibiafhnmgaaGreatDoor
set_option linter.unusedVariables false
set_option linter.unusedSimpArgs false
open Go Go.RowKit

def Seg (W : World) (B : Nat) (e : TypeId) (v : Value) (xs : List Value) : Prop :=
  (v = .slice none 0 0 ∧ xs = []) ∨ ∃ g off cap cur, v = .slice (some ⟨g, off, none⟩) xs.length cap ∧ B ≤ g ∧ W.heap[g]? = some (.cells cur e (0, 0)) ∧ xs.length ≤ cap ∧ off + cap ≤ cur.size ∧ ∀ j x, xs[j]? = some x → cur[off + j]? = some x
end Go.Proofs.YtnjiibiafhnmgaaGreatDoor

namespace Go.Proofs.YtnjiibiafhnmgaaGreatDoor
set_option linter.unusedVariables false
set_option linter.unusedSimpArgs false
open Go Go.RowKit

theorem wpIn_loop_gas {F : Fence} {n : Nat} {P : Program} {Q : Exit → Act → World → Prop} {a : Act} {w : World} {c : Code} (I : Nat → Act → World → Prop) (m : Nat) (h0 : I m a w)
    (round : ∀ j a w, I j a w → c.wpIn F n P (Exit.then (fun a' w' => ∃ j', j' < j ∧ I j' a' w') Q) a w) : (Code.loop c).wpIn F n P Q a w := by
  have key : ∀ k j a w, j < k → I j a w → Code.roundsIn F n P c Q k a w := by
    intro k
    induction k with
    | zero => intro j a w h; omega
    | succ k ih =>
      intro j a w hj hI
      rw [roundsIn_succ]
      refine Code.wpIn_mono (fun e a' w' q => ?_) (round j a w hI)
      cases e <;> first | exact q | (obtain ⟨j', h1, h2⟩ := q; exact ih j' a' w' (by omega) h2)
  exact wpIn_loop_rounds (m + 1) (key _ _ _ _ (Nat.lt_succ_self m) h0)

def Marks (B : Nat) : List Deferred → World → Prop
  | [], _ => True
  | d :: ds, W => (∃ D, d = { target := .collected D, args := #[] } ∧ B ≤ D ∧ W.heap[D]? = some (.deferred (some [])) ∧ ∀ d' ∈ ds, ∀ D', d' = { target := .collected D', args := #[] } → D' < D) ∧ Marks B ds W
def NoCells (B : Nat) (W W' : World) : Prop := ∀ k, B ≤ k → (∃ o : Obj, W.heap[k]? = some o ∧ o.isCells = false) → W'.heap[k]? = W.heap[k]?
theorem NoCells.of_keeps {B : Nat} {W W' : World} (h : KeepsFrom B W W') : NoCells B W W' := fun k hk ⟨o, ho, hc⟩ => (h.same k o hk ho hc).trans ho.symm
theorem Marks.keep {B : Nat} : ∀ {ds : List Deferred} {W W' : World}, Marks B ds W → NoCells B W W' → Marks B ds W'
  | [], _, _, _, _ => trivial
  | _ :: _, _, _, ⟨⟨D, h1, h2, h3, h4⟩, hr⟩, hk => ⟨⟨D, h1, h2, (hk D h2 ⟨_, h3, rfl⟩).trans h3, h4⟩, hr.keep hk⟩
theorem Marks.grown {B : Nat} {ds : List Deferred} {W W' : World} {row : Option Nat} (h : Marks B ds W) (hg : W.grownBy W' row) (hr : ∀ r, row = some r → ∃ o : Obj, W.heap[r]? = some o ∧ o.isCells = true) : Marks B ds W' :=
  h.keep (fun k _ ⟨o, ho, hc⟩ => hg.block k (Array.getElem?_eq_some_iff.1 ho).1 (fun e => by
    obtain ⟨o', ho', hc'⟩ := hr k e.symm
    rw [ho] at ho'
    cases ho'
    rw [hc] at hc'
    cases hc'))
theorem Marks.lt {B : Nat} : ∀ {ds : List Deferred} {W : World}, Marks B ds W → ∀ d ∈ ds, ∀ D, d = { target := .collected D, args := #[] } → D < W.heap.size
  | [], _, _, d, hd, _, _ => by cases hd
  | _ :: _, W, ⟨⟨D0, h1, _, h3, _⟩, hr⟩, d, hd, D, e => by
    rcases List.mem_cons.1 hd with rfl | hd
    · have e2 := h1.symm.trans e
      simp at e2
      subst e2
      exact (Array.getElem?_eq_some_iff.1 h3).1
    · exact hr.lt d hd D e
theorem Marks.push {B B2 D : Nat} {ds : List Deferred} {W W0 : World} (h : Marks B ds W) (h0 : Marks B ds W0) (hB : B ≤ B2) (hB2 : W0.heap.size ≤ B2) (hD : B2 ≤ D) (hK : W.heap[D]? = some (.deferred (some []))) : Marks B ({ target := .collected D, args := #[] } :: ds) W :=
  ⟨⟨D, rfl, by omega, hK, fun d hd D' e => by have := h0.lt d hd D' e; omega⟩, h⟩
theorem Marks.turn {B : Nat} : ∀ {ds : List Deferred} {Wl X Y : World} {row : Option Nat}, Marks B ds Wl → Marks B ds X → X.grownBy Y row → (∀ r, row = some r → Wl.heap.size ≤ r) → Marks B ds Y
  | [], _, _, _, _, _, _, _, _ => trivial
  | _ :: _, _, _, _, _, ⟨⟨D0, e0, _, h0, _⟩, hl⟩, ⟨⟨D, h1, h2, h3, h4⟩, hr⟩, hg, hrow => by
    refine ⟨⟨D, h1, h2, (hg.block D (Array.getElem?_eq_some_iff.1 h3).1 (fun e => ?_)).trans h3, h4⟩, Marks.turn hl hr hg hrow⟩
    have := hrow D e.symm
    have e2 := e0.symm.trans h1
    simp at e2
    subst e2
    have := (Array.getElem?_eq_some_iff.1 h0).1
    omega
structure Shut (B : Nat) (W W' : World) : Prop where
  os : W'.os = W.os
  tape : W'.tape = W.tape
  output : W'.output = W.output
  size : W'.heap.size = W.heap.size
  low : ∀ k, k < B → W'.heap[k]? = W.heap[k]?
  cells : ∀ (k : Nat) (o : Obj), W.heap[k]? = some o → o.isCells = true → W'.heap[k]? = some o
theorem Shut.refl (B : Nat) (W : World) : Shut B W W := ⟨rfl, rfl, rfl, rfl, fun _ _ => rfl, fun _ _ h _ => h⟩
theorem Shut.below {B B' : Nat} {W W' : World} (h : Shut B W W') (hB : B' ≤ B) : Below B' W W' := ⟨h.os, h.tape, h.output, by rw [h.size]; exact Nat.le_refl _, fun k hk => h.low k (by omega)⟩
theorem leave_marks {F : Fence} {n : Nat} {P : Program} {fn : Func} {tmps : Array Value} {R : Ending → World → Prop} {B : Nat} : ∀ {ds : List Deferred} {W W0 : World}, Marks B ds W → Shut B W0 W → (∀ W', Shut B W0 W' → ∃ v, (results fn tmps).run P W' = .ok v W' ∧ R (.returned v) W') → LeavesInM F n P fn tmps R ds .returning W
  | [], W, W0, _, hs, h => h W hs
  | d :: ds, W, W0, ⟨⟨D, hd, hB, hK, hu⟩, hr⟩, hs, h => by
    refine ⟨by simp, .inl ⟨D, _, by rw [hd], run_takeDeferred hK, ?_⟩⟩
    have hr2 : Marks B ds (W.putObj D (.deferred none)) := by
      have : ∀ (l : List Deferred), (∀ d' ∈ l, ∀ D', d' = { target := .collected D', args := #[] } → D' < D) → Marks B l W → Marks B l (W.putObj D (.deferred none)) := by
        intro l
        induction l with
        | nil => intro _ _; trivial
        | cons x l ih =>
          rintro hl ⟨⟨D1, h1, h2, h3, h4⟩, hm⟩
          have := hl x (by simp) D1 h1
          exact ⟨⟨D1, h1, h2, (World.putObj_heap_other (by omega)).trans h3, h4⟩, ih (fun d' hd' => hl d' (by simp [hd'])) hm⟩
      exact this ds hu hr
    refine leave_marks hr2 ⟨hs.os, hs.tape, hs.output, ?_, fun k hk => ?_, fun k o ho hc => ?_⟩ h
    · rw [← hs.size]; simp [World.putObj]
    · rw [World.putObj_heap_other (by omega)]; exact hs.low k hk
    · have h1 := hs.cells k o ho hc
      rw [World.putObj_heap_other (fun e => by subst e; rw [hK] at h1; cases h1; cases hc)]
      exact h1
end Go.Proofs.YtnjiibiafhnmgaaGreatDoor
