/- Contract of the graph's distances. Graphs, plain: the shortest cycle as the program finds it. Contract of the graph's descend. -/
import Derived.Test.YtbbnoloploklkaaGreatDoorQR
import Derived.Test.YtbbnoloploklkaaGreatDoorQD
import Derived.IntWalk
namespace Go.Proofs.YtbbnoloploklkaaGreatDoor
set_option linter.unusedVariables false
set_option linter.unusedSimpArgs false
open Go Go.RowKit

def Ints (W : World) (g : Nat) (l : List Int) : Prop := W.heap[g]? = some (.cells (l.map intC).toArray 3 (0, 0))
theorem Ints.cell {W : World} {g : Nat} {l : List Int} (h : Ints W g l) (i : Nat) (x : Int) (hb : l[i]? = some x) : W.cell? ⟨g, i, none⟩ = some (intC x) := by
  rw [cell_of_row _ _ _ _ _ _ h]
  simp [hb]
theorem Ints.set {W : World} {g : Nat} {l : List Int} (h : Ints W g l) (i : Nat) (x : Int) : Ints (W.setCell ⟨g, i, none⟩ (intC x)) g (l.set i x) := by
  have := heap_setCell_same W g i _ _ (intC x) h
  unfold Ints
  rw [this]
  simp [List.map_set]
theorem gD_get {d : List Int} {a : Nat} (h : a < d.length) : d[a]? = some (gD d a) := by
  unfold gD
  rw [List.getD_eq_getElem?_getD, List.getElem?_eq_getElem h]
  rfl
theorem ofP_eq (S : List (List Nat)) (a b : Nat) : ofP S a b = ofL S a b := rfl

structure BfsW (B : Nat) (w W : World) (N go bo bq : Nat) (d : List Int) (q : List Nat) (qv : Value) : Prop where
  o : Boxed W bo 86 (.slice (some ⟨go, 0, none⟩) N N)
  qb : Boxed W bq 86 qv
  qs : Seg W B 3 qv (q.map natC)
  i : Ints W go d
  ne : qv.ownBlock ≠ some go
  b : Below B w W
  go : B ≤ go ∧ B ≤ bo ∧ B ≤ bq ∧ bo ≠ bq
theorem BfsW.far {B : Nat} {w W W' : World} {N go bo bq : Nat} {d : List Int} {q : List Nat} {qv : Value} (h : BfsW B w W N go bo bq d q qv) (hb : Below B W W') (hk : ∀ k, (k = go ∨ k = bo ∨ k = bq ∨ qv.ownBlock = some k) → k < W.heap.size → W'.heap[k]? = W.heap[k]?) : BfsW B w W' N go bo bq d q qv :=
  ⟨(hk bo (.inr (.inl rfl)) h.o.lt).trans h.o, (hk bq (.inr (.inr (.inl rfl))) h.qb.lt).trans h.qb, h.qs.far (fun k hq => hk k (.inr (.inr (.inr hq))) (h.qs.lt k hq).2), (hk go (.inl rfl) (Array.getElem?_eq_some_iff.1 h.i).1).trans h.i, h.ne, h.b.trans hb, h.go⟩
theorem BfsW.turn {B : Nat} {w W W' : World} {N go bo bq : Nat} {d : List Int} {q : List Nat} {qv : Value} {row : Option Nat} (h : BfsW B w W N go bo bq d q qv) (hg : W.grownBy W' row) (hr : ∀ r, row = some r → B ≤ r ∧ ∃ o : Obj, W.heap[r]? = some o ∧ o.isCells = false) (hB : B ≤ W.heap.size) : BfsW B w W' N go bo bq d q qv := by
  refine h.far ((Below.refl B W).grown hg hB (fun k e => (hr k e).1)) fun k hk hlt => hg.block k hlt fun e => ?_
  obtain ⟨_, o, ho, hc⟩ := hr k e.symm
  have hcells : o.isCells = true := by
    rcases hk with rfl | rfl | rfl | hq
    · rw [show W.heap[k]? = _ from h.i] at ho; cases ho; rfl
    · rw [show W.heap[k]? = _ from h.o] at ho; cases ho; rfl
    · rw [show W.heap[k]? = _ from h.qb] at ho; cases ho; rfl
    · rcases h.qs with ⟨rfl, _⟩ | ⟨g, off, cap, cur, rfl, _, hgg, _⟩
      · simp [Value.ownBlock] at hq
      · simp [Value.ownBlock] at hq
        subst hq
        rw [hgg] at ho; cases ho; rfl
  rw [hc] at hcells
  cases hcells
theorem BfsW.alloc {B : Nat} {w W : World} {N go bo bq : Nat} {d : List Int} {q : List Nat} {qv : Value} (h : BfsW B w W N go bo bq d q qv) (hB : B ≤ W.heap.size) (o : Obj) : BfsW B w (W.alloc o) N go bo bq d q qv :=
  h.far ((Below.refl B W).alloc hB o) (fun k _ hlt => Below.heap_alloc _ _ _ hlt)
theorem BfsW.drew {B : Nat} {w W : World} {N go bo bq : Nat} {d : List Int} {q : List Nat} {qv : Value} (h : BfsW B w W N go bo bq d q qv) : BfsW B w W.drew N go bo bq d q qv := ⟨h.o, h.qb, h.qs, h.i, h.ne, h.b.drew, h.go⟩
theorem BfsW.setI {B : Nat} {w W : World} {N go bo bq : Nat} {d : List Int} {q : List Nat} {qv : Value} (h : BfsW B w W N go bo bq d q qv) (k : Nat) (x : Int) : BfsW B w (W.setCell ⟨go, k, none⟩ (intC x)) N go bo bq (d.set k x) q qv := by
  have e1 : bo ≠ go := fun e => by subst e; have := (show W.heap[bo]? = _ from h.o).symm.trans h.i; simp at this
  have e2 : bq ≠ go := fun e => by subst e; have := (show W.heap[bq]? = _ from h.qb).symm.trans h.i; simp at this
  refine ⟨(Below.heap_setCell _ _ _ _ (by exact e1)).trans h.o, (Below.heap_setCell _ _ _ _ (by exact e2)).trans h.qb, h.qs.far (fun j hj => Below.heap_setCell _ _ _ _ (by exact fun e => by have : j = go := e; subst this; exact h.ne hj)), h.i.set k x, h.ne, h.b.setCell (by exact h.go.1) _, h.go⟩
theorem BfsW.setQ {B : Nat} {w W W1 : World} {N go bo bq : Nat} {d : List Int} {q q' : List Nat} {qv qv' : Value} (h : BfsW B w W N go bo bq d q qv) (hB : B ≤ W.heap.size) (hg : W.grownBy W1 qv.ownBlock) (hs : Seg W1 B 3 qv' (q'.map natC)) (hat : qv'.ownBlock = qv.ownBlock ∨ qv'.ownBlock = none ∨ ∀ k, qv'.ownBlock = some k → W.heap.size ≤ k) : BfsW B w (W1.setCell ⟨bq, 0, none⟩ qv') N go bo bq d q' qv' := by
  have hgo := (Array.getElem?_eq_some_iff.1 h.i).1
  have hne : qv'.ownBlock ≠ some go := fun e => by
    rcases hat with a | a | a
    · exact h.ne (a ▸ e)
    · rw [a] at e; cases e
    · have := a go e; omega
  have h1 : Boxed W1 bo 86 (.slice (some ⟨go, 0, none⟩) N N) := h.o.kept hg (seg_ne h.o h.qs (by decide))
  have h2 : Boxed W1 bq 86 qv := h.qb.kept hg (seg_ne h.qb h.qs (by decide))
  have h3 : Ints W1 go d := (hg.block go hgo (fun e => h.ne e.symm)).trans h.i
  refine ⟨h1.other h.go.2.2.2 qv', h2.set qv', hs.far (fun k hk => Below.heap_setCell _ _ _ _ (by
    intro e
    have e : k = bq := e
    subst e
    exact seg_ne h2 hs (by decide) hk.symm)), ?_, hne, ((h.b.grown hg hB (fun k hk => (h.qs.lt k hk).1)).setCell (by exact h.go.2.2.1) _), h.go⟩
  refine (Below.heap_setCell _ _ _ _ ?_).trans h3
  intro e
  have e : go = bq := e
  subst e
  have := (show W1.heap[go]? = _ from h2).symm.trans h3
  simp at this

theorem unass_start {S : List (List Nat)} {tgt : Nat} (hto : tgt < S.length) : unass ((List.replicate S.length (-1)).set tgt 0) + 1 = S.length := by
  rw [unass_set _ _ _ (by simpa using hto) (by rw [gD_rep]; omega) (by omega)]
  unfold unass
  rw [List.countP_replicate]
  simp
def DistI (B : Nat) (S : List (List Nat)) (least tgt n : Nat) (w : World) (go bo bq bn u0 hs : Nat) (ds : List Deferred) (pre : List Nat) (W' : World) : Prop :=
  ∃ (d' : List Int) (q' : List Nat) (qv' : Value), BfsJ S least tgt n pre d' q' ∧ unass d' + q'.length = u0 ∧ BfsW B w W' S.length go bo bq d' q' qv' ∧ Boxed W' bn 3 (natC n) ∧ Marks B ds W' ∧ hs ≤ W'.heap.size ∧ ∀ k, qv'.ownBlock = some k → k < bn ∨ hs ≤ k

attribute [local go_sem] Oper.semAt_some

set_option maxRecDepth 100000 in
set_option maxHeartbeats 4000000 in
theorem distances_any (v : Value) (S : List (List Nat)) (tgt least : Nat) (w : World) (hR : RowsOf w.heap.size v S w) (hS : S.length ≤ 1000000) (hto : tgt < S.length) (hSl : ∀ a, (S.getD a []).length ≤ 1000000) (hSk : ∀ a, ∀ k ∈ S.getD a [], k < S.length) :
    Calls Tryz.prog 168 #[v, natC tgt, natC least] w fun e w' => ∃ g d, e = .returned (.slice (some ⟨g, 0, none⟩) S.length S.length) ∧ w.heap.size ≤ g ∧ Ints w' g d ∧ DistR S least tgt d ∧ Below w.heap.size w w' := by
  have hv : ∃ a c, v = .slice a S.length c := by
    rcases hR with ⟨rfl, a, c, rfl⟩ | ⟨b, off, cap, rfl, _⟩
    · exact ⟨a, c, rfl⟩
    · exact ⟨_, cap, rfl⟩
  obtain ⟨va, vc, rfl⟩ := hv
  have hrep := Repeat_any w.heap.size 1 S.length (-1) (w.alloc (.cells #[.int .i64 (-1)] 3)) hS (cell_of_row _ _ _ _ _ _ (World.alloc_heap_new w _)) (by simp)
  have HREP := Lib.hid hrep
  have HR := Lib.hid hR
  have HSL := Lib.hid hSl
  have HSK := Lib.hid hSk
  clear hrep hR hSl hSk
  have ht0 : (0 : Int) ≤ (tgt : Int) := by omega
  have ht1 : (tgt : Int) < (S.length : Int) := by omega
  refine (callsIn_wide (n := 9)).1 ?_
  refine callsIn_of_wp_marks Tryz.func168 rfl trivial ?_ rfl
  simp only [Tryz.ntmps168, List.size_toArray, List.length_cons, List.length_nil, Nat.reduceAdd, Nat.reduceSub, Array.replicate_succ, Array.replicate_zero, List.push_toArray, List.append_toArray, List.nil_append, List.cons_append]
  gi_wp2_with fail
  refine ⟨trivial, ?_⟩
  refine (callsIn_wide.2 HREP.out).mono ?_
  rintro e w1 ⟨go, rfl, hgo, hcg, hb1⟩
  have hs1 := hb1.size
  simp at hs1 hgo
  have hgl : go < w1.heap.size := (Array.getElem?_eq_some_iff.1 hcg).1
  have hI1 : Ints w1 go (List.replicate S.length (-1)) := by unfold Ints; rw [hcg]; simp
  have hc0 := cellA (.cells #[.slice (some ⟨go, 0, none⟩) S.length S.length] 86) (hI1.cell tgt (-1) (by simp [hto]))
  have hf0 : (w1.alloc (.cells #[.slice (some ⟨go, 0, none⟩) S.length S.length] 86)).frozen? ⟨go, tgt, none⟩ = false := frozA _ (hI1.cell tgt (-1) (by simp [hto])) (frozen_of_row _ _ _ _ _ hI1)
  have HB1 := Lib.hid (((Below.refl w.heap.size w).alloc (Nat.le_refl _) (.cells #[.int .i64 (-1)] 3)).trans (hb1.mono (by simp)))
  have HI1 := Lib.hid hI1
  clear hcg hb1 hI1
  gi_wp2_with fail
  obtain ⟨W2, hW2⟩ : ∃ W2, W2 = (((w1.setCell ⟨go, tgt, none⟩ (.int .i64 0)).alloc (.cells #[.slice (some ⟨go, 0, none⟩) S.length S.length] 86)).alloc (.cells #[natC tgt] 3)).alloc (.cells #[.slice (some ⟨w1.heap.size + 1, 0, none⟩) 1 1] 86) := ⟨_, rfl⟩
  have hs2 : W2.heap.size = w1.heap.size + 3 := by rw [hW2]; simp
  have hbw : BfsW w.heap.size w W2 S.length go w1.heap.size (w1.heap.size + 1 + 1) ((List.replicate S.length (-1)).set tgt 0) [tgt] (.slice (some ⟨w1.heap.size + 1, 0, none⟩) 1 1) := by
    rw [hW2]
    have hi := HI1.out.set tgt 0
    have z : (w1.setCell ⟨go, tgt, none⟩ (.int .i64 0)).heap.size = w1.heap.size := by simp
    refine ⟨?_, ?_, ?_, ?_, ?_, ?_, by omega, by omega, by omega, by omega⟩
    · have := ((Boxed.new (w1.setCell ⟨go, tgt, none⟩ (.int .i64 0)) 86 (.slice (some ⟨go, 0, none⟩) S.length S.length)).alloc (.cells #[natC tgt] 3)).alloc (.cells #[.slice (some ⟨w1.heap.size + 1, 0, none⟩) 1 1] 86)
      rw [z] at this
      exact this
    · have := Boxed.new (((w1.setCell ⟨go, tgt, none⟩ (.int .i64 0)).alloc (.cells #[.slice (some ⟨go, 0, none⟩) S.length S.length] 86)).alloc (.cells #[natC tgt] 3)) 86 (.slice (some ⟨w1.heap.size + 1, 0, none⟩) 1 1)
      rw [World.size_alloc, World.size_alloc, z] at this
      exact this
    · have := World.alloc_heap_new ((w1.setCell ⟨go, tgt, none⟩ (.int .i64 0)).alloc (.cells #[.slice (some ⟨go, 0, none⟩) S.length S.length] 86)) (.cells #[natC tgt] 3)
      rw [World.size_alloc, z] at this
      exact .inr ⟨w1.heap.size + 1, 0, 1, _, rfl, by omega, (Below.heap_alloc _ _ _ (by simp)).trans this, by simp, by simp, fun j x hx => by simpa using hx⟩
    · exact (Below.heap_alloc _ _ _ (by simp; omega)).trans ((Below.heap_alloc _ _ _ (by simp; omega)).trans ((Below.heap_alloc _ _ _ (by simp; omega)).trans hi))
    · simp [Value.ownBlock]; omega
    · exact (((HB1.out.setCell (by exact (by omega : w.heap.size ≤ go)) _).alloc (by simp; omega) _).alloc (by simp; omega) _).alloc (by simp; omega) _
  rw [← hW2]
  clear hW2 hc0 hf0
  have HBW := Lib.hid hbw
  clear hbw
  refine wpIn_loop_gas (fun j a' W => ∃ u9 u10 u20 u21 u22 u23 u24 u25 u26 u27 u28 u29 u30 u31 u32 u33 u34 u35 u36 u37 u38 u39 u40 u41 u42 u43 u44 u45 u46 u47 u48 u49 : Value, ∃ (ds : List Deferred) (d : List Int) (q : List Nat) (qv : Value), (BfsI S least tgt d q ∧ (j = unass d + q.length ∧ j ≤ S.length) ∧ BfsW w.heap.size w W S.length go w1.heap.size (w1.heap.size + 1 + 1) d q qv ∧ Marks w.heap.size ds W) ∧ a' = { tmps := #[Value.slice va S.length vc, natC tgt, natC least, undef, undef, undef, .slice none 0 0, .pointer (some ⟨w1.heap.size, 0, none⟩), .pointer (some ⟨w1.heap.size + 1 + 1, 0, none⟩), u9, u10, .slice (some ⟨w.heap.size, 0, none⟩) 1 1, .slice va S.length vc, .int .i64 S.length, .slice (some ⟨go, 0, none⟩) S.length S.length, .slice (some ⟨go, 0, none⟩) S.length S.length, natC tgt, .pointer (some ⟨go, tgt, none⟩), natC tgt, .slice (some ⟨w1.heap.size + 1, 0, none⟩) 1 1, u20, u21, u22, u23, u24, u25, u26, u27, u28, u29, u30, u31, u32, u33, u34, u35, u36, u37, u38, u39, u40, u41, u42, u43, u44, u45, u46, u47, u48, u49, undef], defers := ds }) (unass ((List.replicate S.length (-1)).set tgt 0) + 1) ?start ?round
  case start =>
    have hmk : Marks w.heap.size [] W2 := trivial
    repeat apply Exists.intro
    exact ⟨⟨BfsI.start hto, ⟨rfl, by have := unass_start hto; omega⟩, HBW.out, hmk⟩, rfl⟩
  case round =>
    clear HBW
    rintro j a' W ⟨u9, u10, u20, u21, u22, u23, u24, u25, u26, u27, u28, u29, u30, u31, u32, u33, u34, u35, u36, u37, u38, u39, u40, u41, u42, u43, u44, u45, u46, u47, u48, u49, ds, d, q, qv, ⟨hI, ⟨hj, hjS⟩, hW, hM⟩, rfl⟩
    have hcq := hW.qb.cell
    have hsW := hW.b.size
    cases q with
    | nil =>
      obtain ⟨qa, qc, rfl⟩ := hW.qs.shape
      have hco := hW.o.cell
      have HI := Lib.hid hI
      have HW := Lib.hid hW
      have HM := Lib.hid hM
      clear hI hW hM
      simp only [List.map_nil, List.length_nil] at *
      gi_wp2_with fail
      refine leave_marks HM.out (Shut.refl _ _) fun W' hs => ⟨_, results_tmp rfl _ _ _, go, d, rfl, by omega, hs.blk HW.out.i, HI.out.dist, HW.out.b.trans (hs.below (Nat.le_refl _))⟩
    | cons n q =>
      obtain ⟨qg, qo, qc, qa, rfl, hqx, hqs, hqa, hqo⟩ := hW.qs.head
      rw [List.length_map] at *
      have hql : (0 : Int) < ((q.length + 1 : Nat) : Int) := by omega
      have hnS : n < S.length := by have := gD_lt (hI.qok n (by simp)); rw [hI.len] at this; exact this
      have hcq2 := cellA (.cells #[natC n] 3) hcq
      have hfq2 := frozA (.cells #[natC n] 3) hcq hW.qb.frozen
      have HI := Lib.hid hI
      have HW := Lib.hid hW
      have HM := Lib.hid hM
      have HQS := Lib.hid hqs
      clear hI hW hM hqs
      simp only [List.length_cons] at hcq hcq2 hj
      have hbl := HW.out.qb.lt
      have hne1 : w1.heap.size + 1 + 1 ≠ W.heap.size := by omega
      have hne2 : W.heap.size ≠ w1.heap.size + 1 + 1 := by omega
      have HQO := Lib.hid hqo
      clear hqo
      gi_wp2_with fail
      refine ⟨trivial, (of_in 8 _ (n : Int) (least : Int) _ rfl).mono ?_⟩
      rintro e w' ⟨rfl, rfl⟩
      gi_wp2_with fail
      obtain ⟨Wl, hWl⟩ : ∃ Wl, Wl = ((((W.setCell ⟨w1.heap.size + 1 + 1, 0, none⟩ (.slice qa q.length qc)).alloc (.cells #[.int .i64 (n : Int)] 3)).alloc (.cells #[.slice va S.length vc] 161)).alloc (.cells #[.int .i64 (n : Int)] 3)).alloc (.cells #[.int .i64 (least : Int)] 3) := ⟨_, rfl⟩
      have hgW : W.grownBy Wl (some (w1.heap.size + 1 + 1)) := by
        rw [hWl]
        exact ((((grownBy_setCell' W _ _).trans (World.grownBy_alloc _ _ _)).trans (World.grownBy_alloc _ _ _)).trans (World.grownBy_alloc _ _ _)).trans (World.grownBy_alloc _ _ _)
      have hWA : BfsW w.heap.size w (W.setCell ⟨w1.heap.size + 1 + 1, 0, none⟩ (.slice qa q.length qc)) S.length go w1.heap.size (w1.heap.size + 1 + 1) d q (.slice qa q.length qc) := HW.out.setQ hsW (World.grownBy.refl _ _) HQS.out (.inl HQO.out)
      have z : (W.setCell ⟨w1.heap.size + 1 + 1, 0, none⟩ (.slice qa q.length qc)).heap.size = W.heap.size := by simp
      have hWL : BfsW w.heap.size w Wl S.length go w1.heap.size (w1.heap.size + 1 + 1) d q (.slice qa q.length qc) := by
        rw [hWl]
        exact (((hWA.alloc (by omega) _).alloc (by simp; omega) _).alloc (by simp; omega) _).alloc (by simp; omega) _
      have hbn : Boxed Wl W.heap.size 3 (natC n) := by
        rw [hWl]
        have := (((Boxed.new (W.setCell ⟨w1.heap.size + 1 + 1, 0, none⟩ (.slice qa q.length qc)) 3 (natC n)).alloc (.cells #[.slice va S.length vc] 161)).alloc (.cells #[.int .i64 (n : Int)] 3)).alloc (.cells #[.int .i64 (least : Int)] 3)
        rwa [z] at this
      have b0 : Boxed Wl (W.heap.size + 1) 161 (.slice va S.length vc) := by
        rw [hWl]
        have := ((Boxed.new ((W.setCell ⟨w1.heap.size + 1 + 1, 0, none⟩ (.slice qa q.length qc)).alloc (.cells #[.int .i64 (n : Int)] 3)) 161 (.slice va S.length vc)).alloc (.cells #[.int .i64 (n : Int)] 3)).alloc (.cells #[.int .i64 (least : Int)] 3)
        rwa [World.size_alloc, z] at this
      have b1 : Boxed Wl (W.heap.size + 1 + 1) 3 (natC n) := by
        rw [hWl]
        have := (Boxed.new (((W.setCell ⟨w1.heap.size + 1 + 1, 0, none⟩ (.slice qa q.length qc)).alloc (.cells #[.int .i64 (n : Int)] 3)).alloc (.cells #[.slice va S.length vc] 161)) 3 (natC n)).alloc (.cells #[.int .i64 (least : Int)] 3)
        rwa [World.size_alloc, World.size_alloc, z] at this
      have b2 : Boxed Wl (W.heap.size + 1 + 1 + 1) 3 (natC least) := by
        rw [hWl]
        have := Boxed.new ((((W.setCell ⟨w1.heap.size + 1 + 1, 0, none⟩ (.slice qa q.length qc)).alloc (.cells #[.int .i64 (n : Int)] 3)).alloc (.cells #[.slice va S.length vc] 161)).alloc (.cells #[.int .i64 (n : Int)] 3)) 3 (natC least)
        rwa [World.size_alloc, World.size_alloc, World.size_alloc, z] at this
      have hsl : Wl.heap.size = W.heap.size + 4 := by rw [hWl]; simp
      rw [← hWl]
      clear hWl hWA hcq hcq2 hfq2 hqa hqx HQS
      have hML : Marks w.heap.size ds Wl := HM.out.grown hgW (fun r e => by cases e; exact ⟨_, HW.out.qb, rfl⟩)
      have hJ0 := BfsJ.start HI.out
      refine wpIn_rangeFunc_ownG rfl (by decide) (gf := 175) rfl trivial (enters_of Tryz.func175 (by kernel_rfl) rfl)
        (of_stops 8 (by decide) (W.heap.size + 1) w.heap.size (.slice va S.length vc) S n least hnS (by omega) (by have := HSL.out n; omega) Wl b0 b1 b2 (HR.out.below hWL.b (Nat.le_refl _)) (by omega)) kpB_t (kpB_b (by omega) (by omega)) (Below.refl _ _) (fun _ => rfl)
        (fun pre W' => DistI w.heap.size S least tgt n w go w1.heap.size (w1.heap.size + 1 + 1) W.heap.size (unass d + q.length) Wl.heap.size ds (valsOf pre) W') (fun _ _ _ => False) ?hI (fun _ _ _ _ _ h _ _ => h) ?h0
        (fun x => { tmps := #[.slice va S.length vc, natC tgt, natC least, undef, undef, undef, .slice none 0 0, .pointer (some ⟨w1.heap.size, 0, none⟩), .pointer (some ⟨w1.heap.size + 1 + 1, 0, none⟩), .pointer (some ⟨W.heap.size, 0, none⟩), natC x.1, .slice (some ⟨w.heap.size, 0, none⟩) 1 1, .slice va S.length vc, .int .i64 S.length, .slice (some ⟨go, 0, none⟩) S.length S.length, .slice (some ⟨go, 0, none⟩) S.length S.length, natC tgt, .pointer (some ⟨go, tgt, none⟩), natC tgt, .slice (some ⟨w1.heap.size + 1, 0, none⟩) 1 1, .slice (some ⟨qg, qo, none⟩) (q.length + 1) (qc + 1), .int .i64 ((q.length : Int) + 1), .bool true, .slice (some ⟨qg, qo, none⟩) (q.length + 1) (qc + 1), .pointer (some ⟨qg, qo, none⟩), natC n, .slice (some ⟨qg, qo, none⟩) (q.length + 1) (qc + 1), .slice qa q.length qc, .slice va S.length vc, natC n, natC least, .func (.func 175) #[] #[.pointer (some ⟨W.heap.size + 1, 0, none⟩), .pointer (some ⟨W.heap.size + 1 + 1, 0, none⟩), .pointer (some ⟨W.heap.size + 1 + 1 + 1, 0, none⟩)], natC x.1, u33, u34, u35, u36, u37, u38, u39, u40, u41, u42, u43, u44, u45, u46, u47, u48, u49, undef], defers := [] }) ?assign ?body ?done ?stop
      case hI =>
        intro pre X Y row h hg hr
        obtain ⟨d', q', qv', h1, h2, h3, h4, h5, h6, h7⟩ := h
        exact ⟨d', q', qv', h1, h2, h3.turn hg (fun r e => ⟨by have := (hr r e).1; omega, (hr r e).2⟩) (by omega), blk_turn h4 hg (fun r e => (hr r e).2), hML.turn h5 hg (fun r e => (hr r e).1), by have := hg.size; omega, h7⟩
      case h0 => exact ⟨d, q, _, hJ0, rfl, hWL, hbn, hML, Nat.le_refl _, fun k hk => .inl (by have := HW.out.qs.lt k (by rw [← HQO.out]; exact hk); exact this.2)⟩
      case assign =>
        intro l x W2 K hK
        simp only [encOf]
        gi_wp2
        exact hK
      case body =>
        rintro l pre x W2 ⟨d', q', qv', hJ, hu, hW2, hbn2, hM2, hs2', hqb2⟩ _
        have HQB := Lib.hid hqb2
        clear hqb2
        have hxk : x.1 ∈ ofP S n least := x.2
        have hxl : x.1 < S.length := by
          have := hxk
          unfold ofP at this
          exact HSK.out n _ (List.mem_filter.1 this).1
        obtain ⟨k, hkx⟩ : ∃ k, k = x.1 := ⟨_, rfl⟩
        have HS2 : Hid (W.heap.size + 4 ≤ W2.heap.size) := Lib.hid (by omega)
        rw [← hkx] at hxk hxl ⊢
        obtain ⟨hJ', hu'⟩ := hJ.step (st := (d', q')) k hxk hxl
        have hk0 : (0 : Int) ≤ (k : Int) := by omega
        have hk1 : (k : Int) < (S.length : Int) := by omega
        have hco := hW2.o.cell
        have hdl : k < d'.length := by rw [hJ.len]; exact hxl
        have hck := hW2.i.cell k _ (gD_get hdl)
        have hcn := hbn2.cell
        have hnl : n < d'.length := by rw [hJ.len]; exact hnS
        have hcd := hW2.i.cell n _ (gD_get hnl)
        have hfk := frozen_of_row _ _ k _ _ hW2.i
        have hn0 : (0 : Int) ≤ (n : Int) := by omega
        have hn1 : (n : Int) < (S.length : Int) := by omega
        have hbd := hJ.bound n
        have hlo := hJ.n0
        have HVS : Hid (valsOf (pre ++ [x]) = valsOf pre ++ [k]) := Lib.hid (by rw [valsOf_snoc, hkx])
        clear hkx
        by_cases hneg : gD d' k < 0
        · have e1 : bstep n (d', q') k = (d'.set k (gD d' n + 1), q' ++ [k]) := by unfold bstep; exact if_pos hneg
          rw [e1] at hJ' hu'
          simp only at hJ' hu'
          have HJ := Lib.hid hJ'
          have HU := Lib.hid hu'
          have HW2 := Lib.hid hW2
          have HM2 := Lib.hid hM2
          have HBN := Lib.hid hbn2
          have HU0 := Lib.hid hu
          have hcq := hW2.qb.cell
          have hfq := hW2.qb.frozen
          clear hJ' hu' hW2 hM2 hbn2 hJ hu e1
          generalize gD d' n = dn at *
          generalize gD d' k = dk at *
          have hw1 : IntKind.i64.wrap (dn + 1) = dn + 1 := IntWalk.i64_in _ (by omega)
          gi_wp2_with fail
          refine region_round_tail 8 (by kernel_rfl) (by kernel_rfl) (fun _ _ h => h) (by kernel_rfl) ?_
          simp only [List.take_succ_cons, List.take_zero, List.drop_succ_cons, List.drop_zero]
          repeat still_step
          try refine wpStill_nil ?_
          have hne3 : w1.heap.size + 1 + 1 ≠ go := by omega
          have hne4 : go ≠ w1.heap.size + 1 + 1 := by omega
          have hlq : q'.length + 1 ≤ 1000000000 := by have := HU0.out; omega
          go_wp2_with fail
          obtain ⟨W3, hW3⟩ : ∃ W3, W3 = (W2.setCell ⟨go, k, none⟩ (.int .i64 (dn + 1))).drew := ⟨_, rfl⟩
          have hg3 : W2.grownBy W3 (some go) := by
            rw [hW3]
            exact grownD ⟨rfl, rfl, rfl, by simp, fun j _ hj => heap_setCell_other _ ⟨go, k, none⟩ j _ (fun e => hj (by rw [e]))⟩
          have hW3' : BfsW w.heap.size w W3 S.length go w1.heap.size (w1.heap.size + 1 + 1) (d'.set k (dn + 1)) q' qv' := by rw [hW3]; exact (HW2.out.setI k (dn + 1)).drew
          have hgi : ∃ o : Obj, W2.heap[go]? = some o ∧ o.isCells = true := ⟨_, HW2.out.i, rfl⟩
          rw [← hW3]
          clear hW3 hcq hfq hco hck hcn hcd hfk
          have hs3 := hg3.size
          have hgo3 : W.heap.size ≠ go := by omega
          have hB3 : Boxed W3 W.heap.size 3 (natC n) := HBN.out.kept hg3 (by simpa using hgo3)
          have hM3 : Marks w.heap.size ds W3 := HM2.out.grown hg3 (fun r e => by cases e; exact hgi)
          have hKF : KeepsFrom Wl.heap.size W2 W3 := (KeepsOthers.of_grownBy hg3 (fun j o ej hj => by cases ej; obtain ⟨o', h1, h2⟩ := hgi; rw [h1] at hj; cases hj; exact h2)).from _
          have hKB : KpB (W.heap.size + 1 + 1 + 1) w.heap.size W2 W3 := ⟨hg3.block _ (by have := HS2.out; omega) (by simp; omega), (Below.refl w.heap.size W2).grown hg3 (by have := HS2.out; omega) (fun j e => by cases e; omega)⟩
          have hs4 : W.heap.size + 4 ≤ W3.heap.size := by have := HS2.out; omega
          have hcq := hW3'.qb.cell
          have HW3 := Lib.hid hW3'
          have HB3 := Lib.hid hB3
          have HM3 := Lib.hid hM3
          have HKF := Lib.hid hKF
          have HKB := Lib.hid hKB
          clear hW3' hB3 hM3 hKF hKB hg3 hgi hs3 hgo3 HW2 HBN HM2
          obtain ⟨i0, hi0', hz0, hz1, hz2⟩ := info_parts info_ints
          have hcq3 := cellA (.cells #[natC k] 3) hcq
          have HSG := Lib.hid (HW3.out.alloc (by omega) (.cells #[natC k] 3))
          gi_wp2_with (gi_at_builtin; refine wpListIn_append_seg _ rfl _ _ 86 rfl 3 i0 _ 8 Tryz.underlying86 hi0' hz0 hz1 hz2 rfl w.heap.size qv' _ (by rfl) HSG.out.qs (by simp; omega) (natC k) ⟨W3.heap.size, 0, none⟩ 1 (by rfl) (cell_of_row _ _ _ _ _ _ (World.alloc_heap_new W3 _)) rfl (by rw [List.length_map]; exact hlq) (by omega) ?_; intro v6 w6 hs6 hg6 hat6; have hq6 := HSG.out.qb.kept hg6 (seg_ne HSG.out.qb HSG.out.qs (by decide)); have hcq6 := hq6.cell; have hfq6 := hq6.frozen; obtain ⟨qa6, qc6, rfl⟩ := hs6.shape; have HS6 := Lib.hid hs6; have HG6 := Lib.hid hg6; have HAT6 := Lib.hid hat6; clear hs6 hg6 hat6 hq6)
          have hsp : W3.heap.size < (W3.alloc (.cells #[natC k] 3)).heap.size := by simp
          have hs6 := HG6.out.size
          simp only [World.size_alloc] at hs6
          have hfin := HSG.out.setQ (q' := q' ++ [k]) (by simp; omega) HG6.out (by rw [List.map_append]; exact HS6.out) (by
            rcases HAT6.out with h | h
            · exact .inl h
            · exact .inr (.inr h))
          have hqn : ∀ j, qv'.ownBlock = some j → j ≠ W.heap.size ∧ j ≠ W.heap.size + 1 + 1 + 1 := fun j hj => by
            have := HQB.out j hj
            omega
          have hsl2 : Wl.heap.size = W.heap.size + 4 := hsl
          have hqc : ∀ r, qv'.ownBlock = some r → ∃ o : Obj, (W3.alloc (.cells #[natC k] 3)).heap[r]? = some o ∧ o.isCells = true := fun r e => by
            rcases HSG.out.qs with ⟨h, _⟩ | ⟨g, off, cap, cur, h, _, hg, _⟩
            · rw [h] at e; cases e
            · rw [h] at e; cases e; exact ⟨_, hg, rfl⟩
          have g5 : (W3.alloc (.cells #[natC k] 3)).grownBy w6 qv'.ownBlock := HG6.out
          have hq6 := HSG.out.qb.kept HG6.out (seg_ne HSG.out.qb HSG.out.qs (by decide))
          have g6 := grownBy_setCell' w6 (w1.heap.size + 1 + 1) (.slice qa6 ((q'.map natC) ++ [natC k]).length qc6)
          have hl6 : ((q'.map natC) ++ [natC k]).length = q'.length + 1 := by simp
          have HAT7 := HAT6.out
          rw [hl6] at hfin g6 HAT7
          refine ⟨?_, ?_, ?_⟩
          · refine (HKF.out.trans ((KeepsOthers.alloc _ _).from _)).trans (((KeepsOthers.of_grownBy g5 (fun j o ej hj => by obtain ⟨o', h1, h2⟩ := hqc j ej; rw [h1] at hj; cases hj; exact h2)).trans (KeepsOthers.setCell _ _ _)).from _)
          · refine kpB_t HKB.out ⟨?_, ?_⟩
            · rw [Below.heap_setCell _ _ _ _ (by show W.heap.size + 1 + 1 + 1 ≠ w1.heap.size + 1 + 1; omega)]
              rw [g5.block _ (by simp; omega) (fun e => (hqn _ e.symm).2 rfl)]
              exact Below.heap_alloc _ _ _ (by omega)
            · exact (((Below.refl _ _).alloc (by omega) _).grown g5 (by simp; omega) (fun j hj => (HSG.out.qs.lt j hj).1)).setCell (by show w.heap.size ≤ w1.heap.size + 1 + 1; omega) _
          · show DistI _ _ _ _ _ _ _ _ _ _ _ _ _ (valsOf (pre ++ [x])) _
            rw [HVS.out]
            refine ⟨_, _, _, HJ.out, by rw [HU.out]; exact HU0.out, hfin, ?_, ?_, ?_, ?_⟩
            · exact ((HB3.out.alloc _).kept g5 (fun e => (hqn _ e.symm).1 rfl)).other (by omega) _
            · exact ((HM3.out.grown (World.grownBy_alloc _ _ none) (fun r e => by cases e)).grown g5 hqc).grown g6 (fun r e => by cases e; exact ⟨_, hq6, rfl⟩)
            · simp; omega
            · intro j hj
              rcases HAT7 with h | h
              · exact HQB.out j (by rw [← h]; exact hj)
              · right
                have := h j hj
                simp at this
                omega
        · have e1 : bstep n (d', q') k = (d', q') := by unfold bstep; exact if_neg hneg
          rw [e1] at hJ' hu'
          simp only at hJ' hu'
          have HJ := Lib.hid hJ'
          have HW2 := Lib.hid hW2
          have HM2 := Lib.hid hM2
          have HBN := Lib.hid hbn2
          have HU0 := Lib.hid hu
          clear hJ' hu' hW2 hM2 hbn2 hJ hu e1
          generalize gD d' n = dn at *
          generalize gD d' k = dk at *
          gi_wp2_with fail
          refine ⟨KeepsFrom.refl _ _, ⟨rfl, Below.refl _ _⟩, ?_⟩
          show DistI _ _ _ _ _ _ _ _ _ _ _ _ _ (valsOf (pre ++ [x])) _
          rw [HVS.out]
          exact ⟨d', q', qv', HJ.out, HU0.out, HW2.out, HBN.out, HM2.out, by have := HS2.out; omega, fun j hj => by have := HQB.out j hj; omega⟩
      case done =>
        rintro D xs W2 hD hxs ⟨d', q', qv', hJ, hu, hW2, hbn2, hM2, hs2', _⟩ hK
        rw [hxs, ← ofP_eq] at hJ
        have hM3 := hM2.push hML (by omega) (Nat.le_refl _) hD hK
        have HJ := Lib.hid hJ
        have HW2 := Lib.hid hW2
        have HM3 := Lib.hid hM3
        clear hJ hW2 hM3 hM2 hbn2 hK hxs
        gi_wp2
        refine ⟨unass d' + q'.length, by omega, ?_⟩
        repeat apply Exists.intro
        exact ⟨⟨HJ.out.fin, ⟨rfl, by omega⟩, HW2.out, HM3.out⟩, rfl⟩
      case stop =>
        rintro D c pre W2 hD _ h _
        exact h.elim
end Go.Proofs.YtbbnoloploklkaaGreatDoor

namespace Go.Proofs.YtbbnoloploklkaaGreatDoor
set_option linter.unusedVariables false
set_option linter.unusedSimpArgs false

def cstep (far : List Int) (st : Int × Int) (k : Nat) : Int × Int := if 0 ≤ gD far k ∧ (st.1 < 0 ∨ gD far k < st.2) then ((k : Int), gD far k) else st
def cfar (N : Nat) (es : List (Int × Int)) (first : Nat) : List Int := bfsD (sucs N (es.map swapE)) first first
def cycStep (N : Nat) (es : List (Int × Int)) (best : List Nat) (first : Nat) : List Nat :=
  let st := (ofP (sucs N es) first first).foldl (cstep (cfar N es first)) (-1, 0)
  if st.1 < 0 ∨ (best ≠ [] ∧ (best.length : Int) ≤ st.2 + 1) then best
  else if st.1 = (first : Int) then [first] else first :: (descP (sucs N es) (cfar N es first) (gD (cfar N es first) st.1.toNat).toNat st.1.toNat).dropLast
def cycF (N : Nat) (es : List (Int × Int)) (k : Nat) : List Nat := (List.range k).foldl (cycStep N es) []
theorem cycF_succ (N : Nat) (es : List (Int × Int)) (k : Nat) : cycF N es (k + 1) = cycStep N es (cycF N es k) k := by
  unfold cycF
  rw [List.range_succ, List.foldl_append]
  rfl
theorem descP_length (S : List (List Nat)) (far : List Int) : ∀ (m n : Nat), (descP S far m n).length ≤ m + 1
  | 0, n => by simp [descP]
  | m + 1, n => by
    unfold descP
    split
    · have := descP_length S far m ‹_›
      simp
      omega
    · simp
theorem descP_pos (S : List (List Nat)) (far : List Int) (m n : Nat) : 0 < (descP S far m n).length := by cases m <;> simp [descP]
theorem cstep_ok {far : List Int} : ∀ (l : List Nat) (st : Int × Int), (st.1 < 0 ∨ (0 ≤ st.2 ∧ ∃ k : Nat, st.1 = (k : Int) ∧ gD far k = st.2)) →
    ((l.foldl (cstep far) st).1 < 0 ∨ (0 ≤ (l.foldl (cstep far) st).2 ∧ ∃ k : Nat, (l.foldl (cstep far) st).1 = (k : Int) ∧ gD far k = (l.foldl (cstep far) st).2))
  | [], st, h => h
  | k :: l, st, h => by
    refine cstep_ok l (cstep far st k) ?_
    unfold cstep
    split
    · rename_i hc
      exact .inr ⟨hc.1, k, rfl, rfl⟩
    · exact h
end Go.Proofs.YtbbnoloploklkaaGreatDoor

namespace Go.Proofs.YtbbnoloploklkaaGreatDoor
set_option linter.unusedVariables false
set_option linter.unusedSimpArgs false
open Go Go.RowKit

theorem descP_cons (S : List (List Nat)) (far : List Int) (m n : Nat) : descP S far m n = n :: (descP S far m n).tail := by cases m <;> rfl

theorem find_pref {p : Nat → Bool} : ∀ {zs : List Nat} {x : Nat} {l : List Nat}, zs ++ [x] <+: l → (∀ k ∈ zs, p k = false) → p x = true → l.find? p = some x
  | [], x, l, h, _, hx => by
    obtain ⟨t, rfl⟩ := h
    simp [hx]
  | z :: zs, x, l, h, hz, hx => by
    obtain ⟨t, rfl⟩ := h
    have hz0 := hz z (by simp)
    have := find_pref (zs := zs) (x := x) (l := zs ++ [x] ++ t) ⟨t, rfl⟩ (fun k hk => hz k (by simp [hk])) hx
    simp only [List.cons_append]
    rw [List.find?_cons_of_neg (by rw [hz0]; simp)]
    exact this
structure DescW (B : Nat) (w W : World) (N gf bf bo bn : Nat) (acc : List Nat) (n : Nat) (ov : Value) : Prop where
  o : Boxed W bo 86 ov
  os : W.ownsRow B 3 1 ov acc.length (acc.map natC)
  n : Boxed W bn 3 (natC n)
  f : Boxed W bf 86 (.slice (some ⟨gf, 0, none⟩) N N)
  ne : ov.ownBlock ≠ some bn
  b : Below B w W
  le : B ≤ bf ∧ B ≤ bo ∧ B ≤ bn ∧ bf ≠ bo ∧ bn ≠ bo ∧ bn ≠ bf
theorem DescW.far {B : Nat} {w W W' : World} {N gf bf bo bn n : Nat} {acc : List Nat} {ov : Value} (h : DescW B w W N gf bf bo bn acc n ov) (hb : Below B W W') (hk : ∀ k, (k = bf ∨ k = bo ∨ k = bn ∨ ov.ownBlock = some k) → k < W.heap.size → W'.heap[k]? = W.heap[k]?) : DescW B w W' N gf bf bo bn acc n ov :=
  ⟨(hk bo (.inr (.inl rfl)) h.o.lt).trans h.o, own_far h.os (fun k hq => hk k (.inr (.inr (.inr hq))) (h.os.lt k hq).2), (hk bn (.inr (.inr (.inl rfl))) h.n.lt).trans h.n, (hk bf (.inl rfl) h.f.lt).trans h.f, h.ne, h.b.trans hb, h.le⟩
theorem DescW.turn {B : Nat} {w W W' : World} {N gf bf bo bn n : Nat} {acc : List Nat} {ov : Value} {row : Option Nat} (h : DescW B w W N gf bf bo bn acc n ov) (hg : W.grownBy W' row) (hr : ∀ r, row = some r → B ≤ r ∧ ∃ o : Obj, W.heap[r]? = some o ∧ o.isCells = false) (hB : B ≤ W.heap.size) : DescW B w W' N gf bf bo bn acc n ov := by
  refine h.far ((Below.refl B W).grown hg hB (fun k e => (hr k e).1)) fun k hk hlt => hg.block k hlt fun e => ?_
  obtain ⟨_, o, ho, hc⟩ := hr k e.symm
  have hcells : o.isCells = true := by
    rcases hk with rfl | rfl | rfl | hq
    · rw [show W.heap[k]? = _ from h.f] at ho; cases ho; rfl
    · rw [show W.heap[k]? = _ from h.o] at ho; cases ho; rfl
    · rw [show W.heap[k]? = _ from h.n] at ho; cases ho; rfl
    · rcases h.os.2 with ⟨rfl, _⟩ | ⟨g, cap, cur, rfl, _, hgg, _⟩
      · simp [Value.ownBlock] at hq
      · simp [Value.ownBlock] at hq
        subst hq
        rw [hgg] at ho; cases ho; rfl
  rw [hc] at hcells
  cases hcells
theorem DescW.alloc {B : Nat} {w W : World} {N gf bf bo bn n : Nat} {acc : List Nat} {ov : Value} (h : DescW B w W N gf bf bo bn acc n ov) (hB : B ≤ W.heap.size) (o : Obj) : DescW B w (W.alloc o) N gf bf bo bn acc n ov :=
  h.far ((Below.refl B W).alloc hB o) (fun k _ hlt => Below.heap_alloc _ _ _ hlt)
theorem DescW.drew {B : Nat} {w W : World} {N gf bf bo bn n : Nat} {acc : List Nat} {ov : Value} (h : DescW B w W N gf bf bo bn acc n ov) : DescW B w W.drew N gf bf bo bn acc n ov := ⟨h.o, h.os, h.n, h.f, h.ne, h.b.drew, h.le⟩
theorem DescW.setN {B : Nat} {w W : World} {N gf bf bo bn n : Nat} {acc : List Nat} {ov : Value} (h : DescW B w W N gf bf bo bn acc n ov) (k : Nat) : DescW B w (W.setCell ⟨bn, 0, none⟩ (natC k)) N gf bf bo bn acc k ov := by
  obtain ⟨l1, l2, l3, l4, l5, l6⟩ := h.le
  exact ⟨h.o.other l5.symm _, own_far h.os (fun j hj => Below.heap_setCell _ _ _ _ (by intro e; have e : j = bn := e; subst e; exact h.ne hj)), h.n.set _, h.f.other l6.symm _, h.ne, h.b.setCell (by exact l3) _, h.le⟩
theorem DescW.setO {B : Nat} {w W W1 : World} {N gf bf bo bn n : Nat} {acc acc' : List Nat} {ov ov' : Value} (h : DescW B w W N gf bf bo bn acc n ov) (hB : B ≤ W.heap.size) (hg : W.grownBy W1 ov.ownBlock) (hs : W1.ownsRow B 3 1 ov' acc'.length (acc'.map natC)) (hat : ov'.ownBlock = ov.ownBlock ∨ ∀ k, ov'.ownBlock = some k → W.heap.size ≤ k) : DescW B w (W1.setCell ⟨bo, 0, none⟩ ov') N gf bf bo bn acc' n ov' := by
  obtain ⟨l1, l2, l3, l4, l5, l6⟩ := h.le
  have hne : ov'.ownBlock ≠ some bn := fun e => by
    rcases hat with a | a
    · exact h.ne (a ▸ e)
    · have := a bn e; have := h.n.lt; omega
  have h1 : Boxed W1 bo 86 ov := h.o.kept hg (blk_ne h.o h.os (by decide))
  have h2 : Boxed W1 bf 86 (.slice (some ⟨gf, 0, none⟩) N N) := h.f.kept hg (blk_ne h.f h.os (by decide))
  have h3 : Boxed W1 bn 3 (natC n) := h.n.kept hg (fun e => h.ne e.symm)
  exact ⟨h1.set ov', own_far hs (fun k hk => Below.heap_setCell _ _ _ _ (by
    intro e
    have e : k = bo := e
    subst e
    exact blk_ne h1 hs (by decide) hk.symm)), h3.other l5 _, h2.other l4 _, hne, ((h.b.grown hg hB (fun k hk => (h.os.lt k hk).1)).setCell (by exact l2) _), h.le⟩

theorem DescW.newN {B : Nat} {w W : World} {N gf bf bo bn n : Nat} {acc : List Nat} {ov : Value} (h : DescW B w W N gf bf bo bn acc n ov) (hB : B ≤ W.heap.size) : DescW B w (W.alloc (.cells #[natC n] 3)) N gf bf bo W.heap.size acc n ov := by
  obtain ⟨l1, l2, l3, l4, l5, l6⟩ := h.le
  have h1 := h.o.lt
  have h2 := h.f.lt
  exact ⟨h.o.alloc _, h.os.alloc _, Boxed.new W _ _, h.f.alloc _, fun e => by have := (h.os.lt _ e).2; omega, h.b.alloc hB _, l1, l2, hB, l4, by omega, by omega⟩
theorem descP_step {S : List (List Nat)} {far : List Int} {m n x : Nat} (h : (S.getD n []).find? (fun k => gD far k == (m : Int)) = some x) : (descP S far (m + 1) n).tail = x :: (descP S far m x).tail := by
  rw [show descP S far (m + 1) n = n :: (match (S.getD n []).find? (fun k => gD far k == (m : Int)) with | some k => descP S far m k | none => []) from rfl, h]
  exact descP_cons S far m x
theorem appIn_int {F : Fence} {n : Nat} (w : World) {ops : Array Oper} {rest : List Oper} {o : Oper} {ac : Act} {Q : Exit → Act → World → Prop}
    (hg : o.guard = none) (s x : Operand) (hop : o.op = Op.call { callee := Callee.builtin Builtin.append, args := #[s, x], argTypes := #[86, 86] })
    (B : Nat) (v : Value) (k : Nat) (xs : List Value) (hs : ac.eval s = v) (h : w.ownsRow B 3 1 v k xs) (hB : B ≤ w.heap.size) (u : Value) (a : Addr) (c : Nat) (hx : ac.eval x = .slice (some a) 1 c) (hu : w.cell? a = some u) (h1 : u.oneCell' = true) (hl : k + 1 ≤ 1000000000)
    (hK : ∀ g cap w', w'.ownsRow B 3 1 (.slice (some ⟨g, 0, none⟩) (k + 1) cap) (k + 1) (xs ++ [u]) → w.grownBy w' v.ownBlock → (v.ownBlock = some g ∨ g = w.heap.size) → wpListIn F n Tryz.prog ops Q rest (ac.put o.dst (.slice (some ⟨g, 0, none⟩) (k + 1) cap)) w') :
    wpListIn F n Tryz.prog ops Q (o :: rest) ac w := by
  refine wpListIn_plain hg fun K hK' => ?_
  obtain ⟨i0, hi, hz0, hz1, hz2⟩ := info_parts info_ints
  obtain ⟨g, cap, w', hrun, r1, r2, r3, _⟩ := run_append_lies (P := Tryz.prog) w 86 o.type B 3 i0 (.int .i64 0) 1 8 Tryz.underlying86 hi hz0 hz1 hz2 rfl (by decide) v k xs h a 1 c [u] rfl (fun j y hy => by
    cases j with
    | zero =>
      simp at hy
      subst hy
      have : a.add 0 = a := by unfold Addr.add; split <;> simp_all
      rw [this]; exact hu
    | succ j => simp at hy) (by simpa using h1) (by decide) (by unfold maxLen; omega) (by omega) hB w.heap.size rfl
  unfold Oper.wpIn
  refine ⟨?_, ?_⟩
  · simp [Oper.about, hop, resolve, Target.leads, Sem.run_pure]
  · rw [Oper.semAt_plain F _ _ (by rw [hop]; intro c hc'; cases hc')]
    simp [execOp, hop, resolve, invoke, builtin, hs, hx, hrun, Result.andThen]
    exact hK' _ _ (hK g cap w' r1 r2 r3)
def DescI (B : Nat) (far : List Int) (w : World) (N gf bf bo bn n hs : Nat) (acc : List Nat) (ds : List Deferred) (pre : List Nat) (W' : World) : Prop :=
  ∃ ov : Value, (∀ k ∈ pre, gD far k ≠ gD far n - 1) ∧ DescW B w W' N gf bf bo bn acc n ov ∧ Marks B ds W' ∧ hs ≤ W'.heap.size ∧ ∀ k, ov.ownBlock = some k → k < hs - 3 ∨ hs ≤ k
def DescX (B : Nat) (far : List Int) (w : World) (N gf bf bo bn n hs : Nat) (acc : List Nat) (ds : List Deferred) (id : Nat) (c : Code) (pre : List Nat) (W' : World) : Prop :=
  c = .exit id ∧ ∃ (ov : Value) (zs : List Nat) (x : Nat), pre = zs ++ [x] ∧ (∀ k ∈ zs, gD far k ≠ gD far n - 1) ∧ gD far x = gD far n - 1 ∧ DescW B w W' N gf bf bo bn (acc ++ [x]) x ov ∧ Marks B ds W' ∧ hs ≤ W'.heap.size

attribute [local go_sem] Oper.semAt_some

set_option maxRecDepth 100000 in
set_option maxHeartbeats 4000000 in
theorem descend_any (v : Value) (S : List (List Nat)) (from_ gf : Nat) (far : List Int) (w : World) (hR : RowsOf w.heap.size v S w) (hS : S.length ≤ 1000000) (hfl : far.length = S.length) (hF : Ints w gf far) (hfrom : from_ < S.length) (hf0 : 0 ≤ gD far from_) (hfb : ∀ a, gD far a ≤ 1000000)
    (hSl : ∀ a, (S.getD a []).length ≤ 1000000) (hSk : ∀ a, ∀ k ∈ S.getD a [], k < S.length) (hd : ∀ a (m : Nat), gD far a = (m : Int) + 1 → ∃ k ∈ S.getD a [], gD far k = (m : Int)) :
    Calls Tryz.prog 169 #[v, natC from_, .slice (some ⟨gf, 0, none⟩) S.length S.length] w fun e w' => ∃ v, e = .returned v ∧ w'.ownsRow w.heap.size 3 1 v (descP S far (gD far from_).toNat from_).length ((descP S far (gD far from_).toNat from_).map natC) ∧ Below w.heap.size w w' := by
  have hv : ∃ a c, v = .slice a S.length c := by
    rcases hR with ⟨rfl, a, c, rfl⟩ | ⟨b, off, cap, rfl, _⟩
    · exact ⟨a, c, rfl⟩
    · exact ⟨_, cap, rfl⟩
  obtain ⟨va, vc, rfl⟩ := hv
  have HR := Lib.hid hR
  have HSL := Lib.hid hSl
  have HSK := Lib.hid hSk
  have HF := Lib.hid hF
  have HFB := Lib.hid hfb
  have HD := Lib.hid hd
  have hgf : gf < w.heap.size := (Array.getElem?_eq_some_iff.1 hF).1
  clear hR hSl hSk hF hfb hd
  refine (callsIn_wide (n := 9)).1 ?_
  refine callsIn_of_wp_marks Tryz.func169 rfl trivial ?_ rfl
  simp only [Tryz.ntmps169, List.size_toArray, List.length_cons, List.length_nil, Nat.reduceAdd, Nat.reduceSub, Array.replicate_succ, Array.replicate_zero, List.push_toArray, List.append_toArray, List.nil_append, List.cons_append]
  gi_wp2_with fail
  obtain ⟨W2, hW2⟩ : ∃ W2, W2 = (((w.alloc (.cells #[.slice (some ⟨gf, 0, none⟩) S.length S.length] 86)).alloc (.cells #[natC from_] 3)).alloc (.cells #[.slice (some ⟨w.heap.size + 1, 0, none⟩) 1 1] 86)).alloc (.cells #[natC from_] 3) := ⟨_, rfl⟩
  have hs2 : W2.heap.size = w.heap.size + 4 := by rw [hW2]; simp
  have hbw : DescW w.heap.size w W2 S.length gf w.heap.size (w.heap.size + 1 + 1) (w.heap.size + 1 + 1 + 1) [from_] from_ (.slice (some ⟨w.heap.size + 1, 0, none⟩) 1 1) := by
    rw [hW2]
    refine ⟨?_, ?_, ?_, ?_, ?_, ?_, by omega, by omega, by omega, by omega, by omega, by omega⟩
    · have := (Boxed.new ((w.alloc (.cells #[.slice (some ⟨gf, 0, none⟩) S.length S.length] 86)).alloc (.cells #[natC from_] 3)) 86 (.slice (some ⟨w.heap.size + 1, 0, none⟩) 1 1)).alloc (.cells #[natC from_] 3)
      rwa [World.size_alloc, World.size_alloc] at this
    · have := ((own_made w.heap.size 3 1 [natC from_] (w.alloc (.cells #[.slice (some ⟨gf, 0, none⟩) S.length S.length] 86)) (by simp) (by decide) rfl).alloc (.cells #[.slice (some ⟨w.heap.size + 1, 0, none⟩) 1 1] 86)).alloc (.cells #[natC from_] 3)
      rwa [World.size_alloc] at this
    · have := Boxed.new (((w.alloc (.cells #[.slice (some ⟨gf, 0, none⟩) S.length S.length] 86)).alloc (.cells #[natC from_] 3)).alloc (.cells #[.slice (some ⟨w.heap.size + 1, 0, none⟩) 1 1] 86)) 3 (natC from_)
      rwa [World.size_alloc, World.size_alloc, World.size_alloc] at this
    · exact (((Boxed.new w _ _).alloc _).alloc _).alloc _
    · simp [Value.ownBlock]
    · exact ((((Below.refl _ _).alloc (Nat.le_refl _) _).alloc (by simp) _).alloc (by simp; omega) _).alloc (by simp; omega) _
  rw [← hW2]
  clear hW2
  have HBW := Lib.hid hbw
  clear hbw
  refine wpIn_loop_gas (fun j a' W => ∃ u9 u13 u14 u15 u16 u17 u18 u19 u20 u21 u22 u23 u24 u25 u26 u27 u28 u29 u30 u31 u32 u33 u34 u35 u36 u37 : Value, ∃ (bn : Nat) (ds : List Deferred) (acc : List Nat) (n : Nat) (ov : Value), ((j = (gD far n).toNat ∧ 0 ≤ gD far n ∧ n < S.length) ∧ acc ++ (descP S far j n).tail = descP S far (gD far from_).toNat from_ ∧ DescW w.heap.size w W S.length gf w.heap.size (w.heap.size + 1 + 1) bn acc n ov ∧ Marks w.heap.size ds W) ∧ a' = { tmps := #[.slice va S.length vc, natC from_, .slice (some ⟨gf, 0, none⟩) S.length S.length, undef, undef, .pointer (some ⟨w.heap.size, 0, none⟩), .slice none 0 0, .pointer (some ⟨w.heap.size + 1 + 1, 0, none⟩), .pointer (some ⟨bn, 0, none⟩), u9, natC from_, .slice (some ⟨w.heap.size + 1, 0, none⟩) 1 1, natC from_, u13, u14, u15, u16, u17, u18, u19, u20, u21, u22, u23, u24, u25, u26, u27, u28, u29, u30, u31, u32, u33, u34, u35, u36, u37, undef], defers := ds }) (gD far from_).toNat ?start ?round
  case start =>
    have hmk : Marks w.heap.size [] W2 := trivial
    have hde : [from_] ++ (descP S far (gD far from_).toNat from_).tail = descP S far (gD far from_).toNat from_ := (descP_cons _ _ _ _).symm
    repeat apply Exists.intro
    exact ⟨⟨⟨rfl, hf0, hfrom⟩, hde, HBW.out, hmk⟩, rfl⟩
  case round =>
    clear HBW
    rintro j a' W ⟨u9, u13, u14, u15, u16, u17, u18, u19, u20, u21, u22, u23, u24, u25, u26, u27, u28, u29, u30, u31, u32, u33, u34, u35, u36, u37, bn, ds, acc, n, ov, ⟨⟨hj, hn0, hnS⟩, hacc, hW, hM⟩, rfl⟩
    have hsW := hW.b.size
    have hFW : Ints W gf far := (hW.b.block gf hgf).trans HF.out
    have hcf := hW.f.cell
    have hcn := hW.n.cell
    have hcx := hFW.cell n _ (gD_get (by rw [hfl]; exact hnS))
    have hx0 : (0 : Int) ≤ (n : Int) := by omega
    have hx1 : (n : Int) < (S.length : Int) := by omega
    have hbnd := HFB.out n
    obtain ⟨fv, hfv⟩ : ∃ fv, fv = gD far n := ⟨_, rfl⟩
    rw [← hfv] at hcx hn0 hj hbnd
    have HFV := Lib.hid hfv
    clear hfv
    have HW := Lib.hid hW
    have HM := Lib.hid hM
    have HFW := Lib.hid hFW
    have HACC := Lib.hid hacc
    have HJ := Lib.hid hj
    have halen : acc.length ≤ 1000001 := by
      have h1 := congrArg List.length hacc
      have h2 := descP_length S far (gD far from_).toNat from_
      have h3 := HFB.out from_
      rw [List.length_append] at h1
      omega
    clear hW hM hFW hacc hj
    by_cases hz : fv = 0
    · have hj0 : j = 0 := by have := HJ.out; omega
      rw [hz] at hcx
      have hco := HW.out.o.cell
      have HZ := Lib.hid hz
      clear hz
      gi_wp2_with fail
      refine leave_marks HM.out (Shut.refl _ _) fun W' hs => ⟨_, results_tmp rfl _ _ _, ov, rfl, ?_, HW.out.b.trans (hs.below (Nat.le_refl _))⟩
      have e := HACC.out
      rw [hj0] at e
      simp only [descP, List.tail_cons, List.append_nil] at e
      rw [← e]
      refine own_far HW.out.os fun k hk => ?_
      rcases HW.out.os.2 with ⟨h, _⟩ | ⟨g, cap, cur, h, _, hg, _⟩
      · rw [h] at hk; simp [Value.ownBlock] at hk
      · rw [h] at hk; simp [Value.ownBlock] at hk; subst hk
        exact (hs.blk hg).trans hg.symm
    · have hpos : 0 < fv := by omega
      have hne : ¬ fv ≤ 0 := by omega
      have HZ := Lib.hid hz
      clear hz
      gi_wp2_with fail
      refine ⟨trivial, (of_in 8 _ (n : Int) 0 _ rfl).mono ?_⟩
      rintro e w' ⟨rfl, rfl⟩
      gi_wp2_with fail
      obtain ⟨Wl, hWl⟩ : ∃ Wl, Wl = ((W.alloc (.cells #[.slice va S.length vc] 161)).alloc (.cells #[.int .i64 (n : Int)] 3)).alloc (.cells #[.int .i64 0] 3) := ⟨_, rfl⟩
      have hgW : W.grownBy Wl none := by rw [hWl]; exact ((World.grownBy_alloc _ _ _).trans (World.grownBy_alloc _ _ _)).trans (World.grownBy_alloc _ _ _)
      have hWL : DescW w.heap.size w Wl S.length gf w.heap.size (w.heap.size + 1 + 1) bn acc n ov := by
        rw [hWl]
        exact ((HW.out.alloc hsW _).alloc (by simp; omega) _).alloc (by simp; omega) _
      have b0 : Boxed Wl W.heap.size 161 (.slice va S.length vc) := by rw [hWl]; exact ((Boxed.new W _ _).alloc _).alloc _
      have b1 : Boxed Wl (W.heap.size + 1) 3 (natC n) := by
        rw [hWl]
        have := (Boxed.new (W.alloc (.cells #[.slice va S.length vc] 161)) 3 (natC n)).alloc (.cells #[.int .i64 0] 3)
        rwa [World.size_alloc] at this
      have b2 : Boxed Wl (W.heap.size + 1 + 1) 3 (natC 0) := by
        rw [hWl]
        have := Boxed.new ((W.alloc (.cells #[.slice va S.length vc] 161)).alloc (.cells #[.int .i64 (n : Int)] 3)) 3 (natC 0)
        rwa [World.size_alloc, World.size_alloc] at this
      have hsl : Wl.heap.size = W.heap.size + 3 := by rw [hWl]; simp
      rw [← hWl]
      clear hWl hcf hcn hcx
      have hML : Marks w.heap.size ds Wl := HM.out.grown hgW (fun r e => by cases e)
      have hovb : ∀ k, ov.ownBlock = some k → k < W.heap.size := fun k hk => (HW.out.os.lt k hk).2
      have hbnl := HW.out.n.lt
      refine wpIn_rangeFunc_ownG rfl (by decide) (gf := 175) rfl trivial (enters_of Tryz.func175 (by kernel_rfl) rfl)
        (of_stops 8 (by decide) W.heap.size w.heap.size (.slice va S.length vc) S n 0 hnS (by omega) (by have := HSL.out n; omega) Wl b0 b1 b2 (HR.out.below hWL.b (Nat.le_refl _)) (by omega)) kpB_t (kpB_b (by omega) (by omega)) (Below.refl _ _) (fun _ => rfl)
        (fun pre W' => DescI w.heap.size far w S.length gf w.heap.size (w.heap.size + 1 + 1) bn n Wl.heap.size acc ds (valsOf pre) W') (fun c pre W' => DescX w.heap.size far w S.length gf w.heap.size (w.heap.size + 1 + 1) bn n Wl.heap.size acc ds 2 c (valsOf pre) W') ?hI ?hIx ?h0
        (fun x => { tmps := #[.slice va S.length vc, natC from_, .slice (some ⟨gf, 0, none⟩) S.length S.length, undef, undef, .pointer (some ⟨w.heap.size, 0, none⟩), .slice none 0 0, .pointer (some ⟨w.heap.size + 1 + 1, 0, none⟩), .pointer (some ⟨bn, 0, none⟩), natC x.1, natC from_, .slice (some ⟨w.heap.size + 1, 0, none⟩) 1 1, natC from_, .slice (some ⟨gf, 0, none⟩) S.length S.length, natC n, .pointer (some ⟨gf, n, none⟩), intC fv, .bool true, .slice va S.length vc, natC n, .func (.func 175) #[] #[.pointer (some ⟨W.heap.size, 0, none⟩), .pointer (some ⟨W.heap.size + 1, 0, none⟩), .pointer (some ⟨W.heap.size + 1 + 1, 0, none⟩)], natC x.1, u22, u23, u24, u25, u26, u27, u28, u29, u30, u31, u32, u33, u34, u35, u36, u37, undef], defers := [] }) ?assign ?body ?done ?stop
      case hI =>
        intro pre X Y row h hg hr
        obtain ⟨ov', h1, h2, h3, h4, h5⟩ := h
        exact ⟨ov', h1, h2.turn hg (fun r e => ⟨by have := (hr r e).1; omega, (hr r e).2⟩) (by omega), hML.turn h3 hg (fun r e => (hr r e).1), by have := hg.size; omega, h5⟩
      case hIx =>
        intro c pre X Y row h hg hr
        obtain ⟨h0, ov', zs, x, h1, h2, h3, h4, h5, h6⟩ := h
        exact ⟨h0, ov', zs, x, h1, h2, h3, h4.turn hg (fun r e => ⟨by have := (hr r e).1; omega, (hr r e).2⟩) (by omega), hML.turn h5 hg (fun r e => (hr r e).1), by have := hg.size; omega⟩
      case h0 => exact ⟨ov, by simp [valsOf], hWL, hML, Nat.le_refl _, fun k hk => .inl (by have := hovb k hk; omega)⟩
      case assign =>
        intro l x W2 K hK
        simp only [encOf]
        gi_wp2
        exact hK
      case body =>
        rintro l pre x W2 ⟨ov2, hpre, hW2, hM2, hs2', hob2⟩ _
        have hxl : x.1 < S.length := by
          have := x.2
          unfold ofL at this
          exact HSK.out n _ (List.mem_filter.1 this).1
        obtain ⟨k, hkx⟩ : ∃ k, k = x.1 := ⟨_, rfl⟩
        rw [← hkx] at hxl ⊢
        have HVS : Hid (valsOf (pre ++ [x]) = valsOf pre ++ [k]) := Lib.hid (by rw [valsOf_snoc, hkx])
        clear hkx
        have hk0 : (0 : Int) ≤ (k : Int) := by omega
        have hk1 : (k : Int) < (S.length : Int) := by omega
        have hF2 : Ints W2 gf far := (hW2.b.block gf hgf).trans HF.out
        have hcf := hW2.f.cell
        have hcn := hW2.n.cell
        have hfn := hW2.n.frozen
        have hco := hW2.o.cell
        have hck := hF2.cell k _ (gD_get (by rw [hfl]; exact hxl))
        have hcx := hF2.cell n _ (gD_get (by rw [hfl]; exact hnS))
        rw [← HFV.out] at hcx
        obtain ⟨kv, hkv⟩ : ∃ kv, kv = gD far k := ⟨_, rfl⟩
        rw [← hkv] at hck
        have HKV := Lib.hid hkv
        clear hkv
        have hw1 : IntKind.i64.wrap (fv - 1) = fv - 1 := IntWalk.i64_in _ (by omega)
        have HW2 := Lib.hid hW2
        have HM2 := Lib.hid hM2
        have HPRE := Lib.hid hpre
        have HOB := Lib.hid hob2
        have HS2 : Hid (W.heap.size + 3 ≤ W2.heap.size) := Lib.hid (by omega)
        clear hW2 hM2 hpre hob2 hF2
        by_cases hm : kv = fv - 1
        · have hmb : (kv == fv - 1) = true := by rw [hm]; simp
          gi_wp2_with fail
          refine region_round_tail 9 (by kernel_rfl) (by kernel_rfl) (fun _ _ h => h) (by kernel_rfl) ?_
          simp only [List.take_succ_cons, List.take_zero, List.drop_succ_cons, List.drop_zero]
          repeat still_step
          try refine wpStill_nil ?_
          go_wp2_with fail
          obtain ⟨W3, hW3⟩ : ∃ W3, W3 = W2.drew := ⟨_, rfl⟩
          have hD3 : DescW w.heap.size w W3 S.length gf w.heap.size (w.heap.size + 1 + 1) bn acc n ov2 := by rw [hW3]; exact HW2.out.drew
          have hg3 : W2.grownBy W3 none := by rw [hW3]; exact grownD (World.grownBy.refl _ _)
          have hs3 : W3.heap.size = W2.heap.size := by rw [hW3]; rfl
          rw [← hW3]
          clear hW3 hcf hcn hfn hco hck hcx
          have hcn := hD3.n.cell
          have hfn := hD3.n.frozen
          have hN3 := hD3.setN k
          have HSG := Lib.hid (hN3.alloc (by simp; have := HS2.out; omega) (.cells #[natC k] 3))
          have hco := cellA (.cells #[natC k] 3) hN3.o.cell
          have hco0 := hN3.o.cell
          have HN3 := Lib.hid hN3
          have HD3 := Lib.hid hD3
          have HG3 := Lib.hid hg3
          have HS3 := Lib.hid hs3
          clear hN3 hD3 hg3 hs3
          have hsz3 : (W3.setCell ⟨bn, 0, none⟩ (natC k)).heap.size = W3.heap.size := by simp
          have HB0 : Hid (w.heap.size ≤ (W3.setCell ⟨bn, 0, none⟩ (natC k)).heap.size) := Lib.hid (by rw [hsz3, HS3.out]; have := HS2.out; omega)
          have HCX : Hid (((W3.setCell ⟨bn, 0, none⟩ (natC k)).alloc (.cells #[natC k] 3)).cell? ⟨W3.heap.size, 0, none⟩ = some (natC k)) := Lib.hid (by have := World.alloc_heap_new (W3.setCell ⟨bn, 0, none⟩ (natC k)) (.cells #[natC k] 3); rw [hsz3] at this; exact cell_of_row _ _ _ _ _ _ this)
          have HB1 : Hid (w.heap.size ≤ ((W3.setCell ⟨bn, 0, none⟩ (natC k)).alloc (.cells #[natC k] 3)).heap.size) := Lib.hid (by rw [World.size_alloc]; have := HB0.out; omega)
          clear hsz3
          gi_wp2_with (gi_at_builtin; go_loud (refine appIn_int _ rfl _ _ rfl w.heap.size ov2 acc.length _ (by rfl) HSG.out.os HB1.out (natC k) ⟨W3.heap.size, 0, none⟩ 1 (by rfl) HCX.out rfl (by omega) ?_); intro g6 c6 w6 hs6 hg6 hat6; have hq6 := HSG.out.o.kept hg6 (blk_ne HSG.out.o HSG.out.os (by decide)); have hcq6 := hq6.cell; have hfq6 := hq6.frozen; have HS6 := Lib.hid hs6; have HG6 := Lib.hid hg6; have HAT6 := Lib.hid hat6; clear hs6 hg6 hat6 hq6)
          have hfin := HSG.out.setO (acc' := acc ++ [k]) HB1.out HG6.out (by rw [List.length_append, List.map_append]; exact HS6.out) (by
            rcases HAT6.out with h | h
            · exact .inl (by rw [h]; rfl)
            · refine .inr fun j hj => ?_
              have e : g6 = j := by simpa [Value.ownBlock] using hj
              subst e
              exact Nat.le_of_eq h.symm)
          have hqc : ∀ r, ov2.ownBlock = some r → ∃ o : Obj, ((W3.setCell ⟨bn, 0, none⟩ (natC k)).alloc (.cells #[natC k] 3)).heap[r]? = some o ∧ o.isCells = true := fun r e => by
            rcases HSG.out.os.2 with ⟨h, _⟩ | ⟨g, cap, cur, h, _, hg, _⟩
            · rw [h] at e; cases e
            · rw [h] at e; cases e; exact ⟨_, hg, rfl⟩
          have hq6 := HSG.out.o.kept HG6.out (blk_ne HSG.out.o HSG.out.os (by decide))
          have g4 := grownBy_setCell' W3 bn (natC k)
          have g5 := HG6.out
          have g6' := grownBy_setCell' w6 (w.heap.size + 1 + 1) (.slice (some ⟨g6, 0, none⟩) (acc.length + 1) c6)
          have hs6 := HG6.out.size
          have hs7 : W3.heap.size = W2.heap.size := HS3.out
          refine ⟨?_, ?_⟩
          · exact (KeepsFrom.of_grownBy HG3.out (fun j e => by cases e)).trans ((((KeepsOthers.setCell W3 _ _).trans (KeepsOthers.alloc _ _)).trans ((KeepsOthers.of_grownBy g5 (fun j o ej hj => by obtain ⟨o', h1, h2⟩ := hqc j ej; rw [h1] at hj; cases hj; exact h2)).trans (KeepsOthers.setCell _ _ _))).from _)
          · show DescX _ _ _ _ _ _ _ _ _ _ _ _ _ _ (valsOf (pre ++ [x])) _
            rw [HVS.out]
            refine ⟨rfl, _, valsOf pre, k, rfl, HPRE.out, by rw [← HKV.out, ← HFV.out]; exact hm, by simpa using hfin, ?_, ?_⟩
            · exact ((((HM2.out.grown HG3.out (fun r e => by cases e)).grown g4 (fun r e => by cases e; exact ⟨_, HD3.out.n, rfl⟩)).grown (World.grownBy_alloc _ _ none) (fun r e => by cases e)).grown g5 hqc).grown g6' (fun r e => by cases e; exact ⟨_, hq6, rfl⟩)
            · have := HS2.out
              simp at hs6 ⊢
              omega
        · have hmb : (kv == fv - 1) = false := by rw [beq_eq_false_iff_ne]; exact hm
          gi_wp2_with fail
          refine region_round_tail 9 (by kernel_rfl) (by kernel_rfl) (fun _ _ h => h) (by kernel_rfl) ?_
          simp only [List.take_succ_cons, List.take_zero, List.drop_succ_cons, List.drop_zero]
          repeat still_step
          try refine wpStill_nil ?_
          go_wp2_with fail
          gi_wp2_with fail
          have hg3 : W2.grownBy W2.drew none := grownD (World.grownBy.refl _ _)
          refine ⟨KeepsFrom.of_grownBy hg3 (fun j e => by cases e), ⟨rfl, (Below.refl _ _).drew⟩, ?_⟩
          show DescI _ _ _ _ _ _ _ _ _ _ _ _ (valsOf (pre ++ [x])) _
          rw [HVS.out]
          refine ⟨ov2, fun j hj => ?_, HW2.out.drew, HM2.out.grown hg3 (fun r e => by cases e), by show Wl.heap.size ≤ W2.heap.size; have := HS2.out; omega, fun j hj => by have := HOB.out j hj; omega⟩
          rcases List.mem_append.1 hj with hj | hj
          · exact HPRE.out j hj
          · rw [List.mem_singleton] at hj
            subst hj
            rw [← HKV.out, ← HFV.out]
            exact hm
      case done =>
        rintro D xs W2 hD hxs ⟨ov2, hpre, _⟩ hK
        exfalso
        rw [hxs] at hpre
        unfold ofL at hpre
        rw [List.filter_eq_self.2 (by simp)] at hpre
        have e := HFV.out
        obtain ⟨k, hk1, hk2⟩ := HD.out n ((gD far n).toNat - 1) (by omega)
        exact hpre k hk1 (by omega)
      case stop =>
        rintro D c pre W2 hD hpf ⟨rfl, ov2, zs, x, hz, hzs, hx, hW2, hM2, hs2'⟩ hK
        have hcn := hW2.n.cell
        have HW2 := Lib.hid hW2
        have hM3 := hM2.push hML (by omega) (Nat.le_refl _) hD hK
        have HM3 := Lib.hid hM3
        have HX := Lib.hid hx
        have HZ2 := Lib.hid hz
        have HZS := Lib.hid hzs
        have HPF := Lib.hid hpf
        clear hW2 hM3 hM2 hx hz hzs hpf hK
        gi_wp2
        have e0 := HFV.out
        have e1 := HX.out
        have e2 := HJ.out
        have hxm : x ∈ ofL S n 0 := by
          have := HPF.out
          rw [HZ2.out] at this
          obtain ⟨t, ht⟩ := this
          rw [← ht]; simp
        have hxS : x ∈ S.getD n [] := by
          unfold ofL at hxm
          exact (List.mem_filter.1 hxm).1
        have hxN : x < S.length := HSK.out n x hxS
        have hfind : (S.getD n []).find? (fun k => gD far k == (((gD far x).toNat : Nat) : Int)) = some x := by
          have hp := HPF.out
          rw [HZ2.out] at hp
          unfold ofL at hp
          rw [List.filter_eq_self.2 (by simp)] at hp
          refine find_pref hp (fun k hk => ?_) ?_
          · rw [beq_eq_false_iff_ne]
            have := HZS.out k hk
            omega
          · rw [beq_iff_eq]; omega
        have hjm : j = (gD far x).toNat + 1 := by omega
        have hacc2 : acc ++ [x] ++ (descP S far (gD far x).toNat x).tail = descP S far (gD far from_).toNat from_ := by
          rw [← HACC.out, hjm, descP_step hfind, List.append_assoc]
          rfl
        have hWN := HW2.out.newN (by omega)
        have hMN := HM3.out.grown (World.grownBy_alloc W2 (.cells #[natC x] 3) none) (fun r e => by cases e)
        have hx00 : 0 ≤ gD far x := by omega
        refine ⟨(gD far x).toNat, by omega, ?_⟩
        repeat apply Exists.intro
        exact ⟨⟨⟨rfl, hx00, hxN⟩, hacc2, hWN, hMN⟩, rfl⟩
end Go.Proofs.YtbbnoloploklkaaGreatDoor
