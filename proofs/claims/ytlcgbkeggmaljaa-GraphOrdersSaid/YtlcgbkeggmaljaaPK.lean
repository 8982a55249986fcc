/- The library's Index, Contains and Equal at edges. Graphs, plain: a shortest way is one, and no edge makes it shorter. Graphs, plain: two nodes have one number exactly if they reach each other. Graphs, plain: the components as the program lists them are the sets of nodes that reach each other; the edges between them. Graphs, plain: where no way leads back, the program's list has each node once, behind all to which edges lead. Graphs, plain: what the program's levels are. -/
import Derived.Test.YtlcgbkeggmaljaaPA
import Derived.Test.YtlcgbkeggmaljaaPF
import Derived.Test.YtlcgbkeggmaljaaShelf
import Derived.Shelf.SlicesQ.Contains
import Derived.Shelf.SlicesQ.Equal
import Derived.Laws.StructEq
import Derived.Test.YtlcgbkeggmaljaaPB
import Derived.Test.YtlcgbkeggmaljaaPC
import Derived.Test.YtlcgbkeggmaljaaPG
namespace Go.Proofs.Ytlcgbkeggmaljaa
set_option linter.unusedVariables false
set_option linter.unusedSimpArgs false
open Go Go.RowKit Go.Shelf Go.Lib

def edgeRen : Ren := ⟨fun x => if x = 6 then 58 else if x = 7 then 33 else 24, fun x => if x = 0 then 0 else if x = 3 then 3 else if x = 4 then 4 else if x = 22 then 23 else 39, fun x => x⟩
theorem edgeLays7 : SlLaysQ.n7 Try.prog edgeRen := {
  mixed := by kernel_rfl
  f6 := ⟨Try.f58.name, by decide, Try.func58.trans (congrArg some (by kernel_rfl))⟩
  f7 := ⟨Try.f33.name, by decide, Try.func33.trans (congrArg some (by kernel_rfl))⟩
  t0 := Try.underlying0
  a0 := Try.isAgg0
  z0 := Try.sizeOf0
  v0 := Try.zeroValue0
  t3 := Try.underlying3
  a3 := Try.isAgg3
  z3 := Try.sizeOf3
  v3 := Try.zeroValue3
  t4 := Try.underlying4
  a4 := Try.isAgg4
  z4 := Try.sizeOf4
  v4 := Try.zeroValue4
  t22 := Try.underlying23
  a22 := Try.isAgg23
  z22 := Try.sizeOf23
  v22 := Try.zeroValue23 }
theorem edgeLays8 : SlLaysQ.n8 Try.prog edgeRen := {
  mixed := by kernel_rfl
  f8 := ⟨Try.f24.name, by decide, Try.func24.trans (congrArg some (by kernel_rfl))⟩
  t0 := Try.underlying0
  a0 := Try.isAgg0
  z0 := Try.sizeOf0
  v0 := Try.zeroValue0
  t3 := Try.underlying3
  a3 := Try.isAgg3
  z3 := Try.sizeOf3
  v3 := Try.zeroValue3
  t4 := Try.underlying4
  a4 := Try.isAgg4
  z4 := Try.sizeOf4
  v4 := Try.zeroValue4
  t22 := Try.underlying23
  a22 := Try.isAgg23
  z22 := Try.sizeOf23
  v22 := Try.zeroValue23 }
/-- an edge's cells. -/
def edgeC (x : Int × Int) : List Value := [.int .i64 x.1, .int .i64 x.2]
theorem edge_eql : EqlAt Try.prog 39 (fun x => .agg (edgeC x).toArray) (fun x y => x.1 == y.1 && x.2 == y.2) := by
  refine ⟨fun x y w => ?_, GuardAt.agg _ (by kernel_rfl)⟩
  have u3 := Try.underlying3
  have a3 := Try.isAgg3
  have z3 := Try.sizeOf3
  have hS : Try.prog.underlying 39 = some (.struct (Try.prog.fieldsOf 39)) := by kernel_rfl
  have hp : Try.prog.stoodInHeld 39 = false := by kernel_rfl
  simp only [edgeC]
  rw [run_eql_struct, show (10000 : Nat) = 9999 + 1 from rfl, run_equalIn_agg w 9999 39 _ _ hS hp]
  simp only [Program.fieldsOf, Try.underlying39]
  go_simp
  by_cases h1 : x.fst = y.fst <;> by_cases h2 : x.snd = y.snd <;> simp [h1, h2]
theorem edge_neq : NeqAt Try.prog 39 (fun x => .agg (edgeC x).toArray) (fun x y => x.1 == y.1 && x.2 == y.2) := by
  refine ⟨fun x y w => ?_, GuardAt.agg _ (by kernel_rfl)⟩
  have u3 := Try.underlying3
  have a3 := Try.isAgg3
  have z3 := Try.sizeOf3
  have hS : Try.prog.underlying 39 = some (.struct (Try.prog.fieldsOf 39)) := by kernel_rfl
  have hp : Try.prog.stoodInHeld 39 = false := by kernel_rfl
  simp only [edgeC]
  rw [run_neq_struct, show (10000 : Nat) = 9999 + 1 from rfl, run_equalIn_agg w 9999 39 _ _ hS hp]
  simp only [Program.fieldsOf, Try.underlying39]
  go_simp
  by_cases h1 : x.fst = y.fst <;> by_cases h2 : x.snd = y.snd <;> simp [h1, h2]
theorem pair_beq (x y : Int × Int) : (x.1 == y.1 && x.2 == y.2) = decide (x = y) := by
  obtain ⟨a, b⟩ := x
  obtain ⟨c, d⟩ := y
  by_cases h1 : a = c <;> by_cases h2 : b = d <;> simp [h1, h2]
/-- the edges' cells. -/
theorem edges_cells {B b off cap : Nat} {es : List (Int × Int)} {w : World} (h : EdgesOf B (.slice (some ⟨b, off, none⟩) es.length cap) es w) : ∀ j, j < es.length → ∀ i v, (edgeC es[j]!)[i]? = some v → w.cell? ⟨b, off + j * 2 + i, none⟩ = some v := by
  obtain ⟨ao, c, e, h⟩ := h
  cases e
  intro j hj i v hv
  rw [getElem!_pos es j hj] at hv
  obtain ⟨b', off', e, _, h1, h2⟩ := h j es[j] (by simp [hj])
  cases e
  match i, hv with
  | 0, hv => cases hv; exact h1
  | 1, hv => cases hv; exact h2
  | i + 2, hv => simp [edgeC] at hv
/-- slices.Contains at edges. -/
theorem EdgeContains_any (v : Value) (es : List (Int × Int)) (x y : Int) (w : World) (hes : es.length ≤ 1000000000) (hpos : 0 < es.length) (hE : EdgesOf w.heap.size v es w) :
    Calls Try.prog 33 #[v, .agg #[.int .i64 x, .int .i64 y]] w fun e w' => e = .returned (.bool (decide ((x, y) ∈ es))) ∧ Below w.heap.size w w' := by
  have hE0 := hE
  obtain ⟨ao, c, rfl, h⟩ := hE
  obtain ⟨b, off, rfl, _⟩ := h 0 es[0] (by simp [hpos])
  refine (AnyQ.slices_Contains edgeLays7 2 Try.isAgg39 Try.sizeOf39 edgeC (fun _ => rfl) _ edge_eql b off es.length c es (x, y) w (Nat.le_refl _) (by omega) (edges_cells hE0)).mono ?_
  rintro e w' ⟨rfl, hb⟩
  refine ⟨?_, hb⟩
  congr 2
  rw [List.take_length]
  by_cases hm : (x, y) ∈ es
  · rw [decide_eq_true hm, List.any_eq_true]
    exact ⟨_, hm, by simp⟩
  · rw [decide_eq_false hm, ← Bool.not_eq_true, List.any_eq_true]
    rintro ⟨z, hz, he⟩
    rw [pair_beq, decide_eq_true_eq] at he
    exact hm (he ▸ hz)
theorem row_cells {B b off cap : Nat} {l : List Int} {w : World} (h : RowOf intC B (.slice (some ⟨b, off, none⟩) l.length cap) l w) (hp : 0 < l.length) : ∀ j, j < l.length → w.cell? ⟨b, off + j, none⟩ = some (.int .i64 (l.getD j 0)) := fun j hj => by
  rcases h with ⟨h, _⟩ | ⟨b', off', cap', e, _, h⟩
  · rw [h] at hp; simp at hp
  · cases e
    have := h j l[j] (by simp [hj])
    rw [this, List.getD_eq_getElem?_getD, List.getElem?_eq_getElem hj]
    rfl
/-- slices.Contains at numbers. -/
theorem Contains_ints (v : Value) (l : List Int) (x : Int) (B : Nat) (w : World) (hl : l.length ≤ 1000000000) (h : RowOf intC B v l w) :
    Calls Try.prog 32 #[v, .int .i64 x] w fun e w' => e = .returned (.bool (decide (x ∈ l))) ∧ w' = w := by
  have h0 := h
  rcases h with ⟨rfl, a, c, rfl⟩ | ⟨b, off, cap, rfl, _, _⟩
  · refine (Try.slices_Contains_int_empty a c x w).mono ?_
    rintro e w' ⟨rfl, rfl⟩
    exact ⟨by simp, rfl⟩
  · by_cases hp : 0 < l.length
    · refine (Try.slices_Contains_int b off l.length cap l x w (Nat.le_refl _) (by omega) (row_cells h0 hp)).mono ?_
      rintro e w' ⟨rfl, rfl⟩
      refine ⟨?_, rfl⟩
      rw [List.take_length, List.contains_eq_mem]
    · have : l = [] := List.length_eq_zero_iff.1 (by omega)
      subst this
      refine (Try.slices_Contains_int_empty _ cap x w).mono ?_
      rintro e w' ⟨rfl, rfl⟩
      exact ⟨by simp, rfl⟩
/-- slices.Index at numbers. -/
theorem Index_ints (v : Value) (l : List Int) (x : Int) (B : Nat) (w : World) (hl : l.length ≤ 1000000000) (h : RowOf intC B v l w) :
    Calls Try.prog 36 #[v, .int .i64 x] w fun e w' => e = .returned (.int .i64 (Lib.idxOf l x)) ∧ w' = w := by
  have h0 := h
  rcases h with ⟨rfl, a, c, rfl⟩ | ⟨b, off, cap, rfl, _, _⟩
  · exact Try.slices_Index_int_empty a c x w
  · by_cases hp : 0 < l.length
    · refine (Try.slices_Index_int b off l.length cap l x w (Nat.le_refl _) (by omega) (row_cells h0 hp)).mono ?_
      rintro e w' ⟨rfl, rfl⟩
      rw [List.take_length]
      exact ⟨rfl, rfl⟩
    · have : l = [] := List.length_eq_zero_iff.1 (by omega)
      subst this
      exact Try.slices_Index_int_empty _ cap x w
end Go.Proofs.Ytlcgbkeggmaljaa

namespace Go.Proofs.Ytlcgbkeggmaljaa
set_option linter.unusedVariables false
set_option linter.unusedSimpArgs false

/-- a way of so many steps. -/
inductive Walk (S : List (List Nat)) : Nat → Nat → Nat → Prop
  | nil (a : Nat) : Walk S a a 0
  | cons {a b c m : Nat} : b ∈ S.getD a [] → Walk S b c m → Walk S a c (m + 1)
theorem Walk.snoc {S : List (List Nat)} {a b c m : Nat} (h : Walk S a b m) (hc : c ∈ S.getD b []) : Walk S a c (m + 1) := by
  induction h with
  | nil a => exact .cons hc (.nil c)
  | cons hb _ ih => exact .cons hb (ih hc)
theorem Walk.append {S : List (List Nat)} {a b c m n : Nat} (h : Walk S a b m) (k : Walk S b c n) : Walk S a c (m + n) := by
  induction h with
  | nil a => rw [Nat.zero_add]; exact k
  | @cons a b' c' m hb _ ih => rw [show m + 1 + n = (m + n) + 1 by omega]; exact .cons hb (ih k)
theorem Walk.rch {S : List (List Nat)} {a b m : Nat} (h : Walk S a b m) : Rch S a b := by
  induction h with
  | nil a => exact .refl a
  | cons hb _ ih => exact .step hb ih
theorem Rch.walk {S : List (List Nat)} {a b : Nat} (h : Rch S a b) : ∃ m, Walk S a b m := by
  induction h with
  | refl a => exact ⟨0, .nil a⟩
  | step hb _ ih => obtain ⟨m, hm⟩ := ih; exact ⟨m + 1, .cons hb hm⟩
/-- a distance is a way's length. -/
theorem dist_walk {N : Nat} {es : List (Int × Int)} {to : Nat} {d : List Int} (h : DistR (sucs N (es.map swapE)) 0 to d) : ∀ (m a : Nat), gD d a = (m : Int) → Walk (sucs N es) a to m
  | 0, a, ha => by
    have := h.zero a (by simpa using ha)
    subst this
    exact .nil _
  | m + 1, a, ha => by
    obtain ⟨k, hk, hm⟩ := h.desc a m (by rw [ha]; simp)
    exact .cons hk (dist_walk h m k hm)
/-- no way is shorter. -/
theorem walk_dist {N : Nat} {es : List (Int × Int)} {to a m : Nat} {d : List Int} (h : DistR (sucs N (es.map swapE)) 0 to d) (hw : Walk (sucs N es) a to m) : 0 ≤ gD d a ∧ gD d a ≤ m := by
  induction hw with
  | nil a => rw [h.t0]; simp
  | @cons a b c m hb _ ih =>
    obtain ⟨h1, h2⟩ := ih h
    obtain ⟨m1, m2, m3⟩ := mem_sucs.1 hb
    obtain ⟨h3, h4⟩ := h.near b h1 a (by unfold ofP; exact List.mem_filter.2 ⟨mem_sucs.2 ⟨m2, m1, mem_swap.2 m3⟩, by simp⟩)
    refine ⟨h3, ?_⟩
    have : ((m + 1 : Nat) : Int) = (m : Int) + 1 := by simp
    omega
/-- a list of nodes that is a way. -/
def IsWay (S : List (List Nat)) (l : List Nat) (a b : Nat) : Prop := l.head? = some a ∧ l.getLast? = some b ∧ ∀ i x y, l[i]? = some x → l[i + 1]? = some y → y ∈ S.getD x []
theorem descP_way {N : Nat} {es : List (Int × Int)} {to : Nat} {d : List Int} (h : DistR (sucs N (es.map swapE)) 0 to d) : ∀ (m n : Nat), gD d n = (m : Int) → IsWay (sucs N es) (descP (sucs N es) d m n) n to ∧ (descP (sucs N es) d m n).length = m + 1
  | 0, n, hn => by
    have := h.zero n (by simpa using hn)
    subst this
    exact ⟨⟨rfl, rfl, fun i x y hx hy => by simp [descP] at hy⟩, rfl⟩
  | m + 1, n, hn => by
    obtain ⟨k0, hk0, hm0⟩ := h.desc n m (by rw [hn]; simp)
    unfold descP
    cases e : ((sucs N es).getD n []).find? (fun k => gD d k == (m : Int)) with
    | none =>
      have := List.find?_eq_none.1 e k0 hk0
      exact absurd (by simpa using hm0) this
    | some k =>
      have hk1 := List.mem_of_find?_eq_some e
      have hk2 : gD d k = (m : Int) := by simpa using List.find?_some e
      obtain ⟨⟨i1, i2, i3⟩, i4⟩ := descP_way h m k hk2
      simp only
      refine ⟨⟨rfl, ?_, fun i x y hx hy => ?_⟩, by rw [List.length_cons, i4]⟩
      · rw [List.getLast?_cons, i2]
        rfl
      · cases i with
        | zero =>
          simp at hx hy
          subst hx
          rw [← List.head?_eq_getElem?, i1] at hy
          cases hy
          exact hk1
        | succ i => exact i3 i x y (by simpa using hx) (by simpa using hy)
theorem swap_dist (N : Nat) (es : List (Int × Int)) (b : Nat) (hb : b < N) : DistR (sucs N (es.map swapE)) 0 b (bfsD (sucs N (es.map swapE)) 0 b) := bfsD_dist sucs_lt (by rw [sucs_length]; exact hb)
theorem pathF_nil {N : Nat} {es : List (Int × Int)} {a b : Nat} (hb : b < N) : pathF N es a b = [] ↔ ¬ Rch (sucs N es) a b := by
  have hd := swap_dist N es b hb
  unfold pathF
  simp only
  split
  · rename_i hn
    refine ⟨fun _ hr => ?_, fun _ => rfl⟩
    obtain ⟨m, hm⟩ := hr.walk
    have := (walk_dist hd hm).1
    omega
  · rename_i hn
    obtain ⟨m, hm⟩ : ∃ m : Nat, gD (bfsD (sucs N (es.map swapE)) 0 b) a = m := ⟨(gD (bfsD (sucs N (es.map swapE)) 0 b) a).toNat, by omega⟩
    rw [hm]
    have := (descP_way hd m a hm).2
    refine ⟨fun e => ?_, fun e => absurd (dist_walk hd m a hm).rch e⟩
    rw [Int.toNat_natCast] at e
    rw [e] at this
    simp at this
/-- a path is a way, of as many steps as the distance. -/
theorem pathF_way {N : Nat} {es : List (Int × Int)} {a b : Nat} (hb : b < N) (hr : Rch (sucs N es) a b) :
    IsWay (sucs N es) (pathF N es a b) a b ∧ ∃ m, (pathF N es a b).length = m + 1 ∧ Walk (sucs N es) a b m ∧ ∀ k, Walk (sucs N es) a b k → m ≤ k := by
  have hd := swap_dist N es b hb
  obtain ⟨k, hk⟩ := hr.walk
  have h0 := (walk_dist hd hk).1
  obtain ⟨m, hm⟩ : ∃ m : Nat, gD (bfsD (sucs N (es.map swapE)) 0 b) a = m := ⟨(gD (bfsD (sucs N (es.map swapE)) 0 b) a).toNat, by omega⟩
  have he : pathF N es a b = descP (sucs N es) (bfsD (sucs N (es.map swapE)) 0 b) m a := by
    unfold pathF
    simp only
    rw [if_neg (by omega), hm, Int.toNat_natCast]
  rw [he]
  obtain ⟨h1, h2⟩ := descP_way hd m a hm
  refine ⟨h1, m, h2, dist_walk hd m a hm, fun k hk => ?_⟩
  have := (walk_dist hd hk).2
  omega
/-- no edge makes a way shorter. -/
theorem pathF_edge {N : Nat} {es : List (Int × Int)} {a u v : Nat} (hu : u < N) (hv : v < N) (he : ((u : Int), (v : Int)) ∈ es) (hl : 0 < (pathF N es a u).length) : (pathF N es a v).length ≤ (pathF N es a u).length + 1 := by
  have hr : Rch (sucs N es) a u := Classical.byContradiction fun h => by
    rw [(pathF_nil hu).2 h] at hl
    simp at hl
  obtain ⟨_, m, h1, h2, _⟩ := pathF_way hu hr
  have hw := h2.snoc (mem_sucs.2 ⟨hu, hv, he⟩)
  obtain ⟨_, n, h3, _, h4⟩ := pathF_way hv hw.rch
  have := h4 _ hw
  omega
theorem pathF_self {N : Nat} {es : List (Int × Int)} {a : Nat} (ha : a < N) : (pathF N es a a).length = 1 := by
  obtain ⟨_, m, h1, _, h2⟩ := pathF_way (es := es) ha (.refl a)
  have := h2 0 (.nil a)
  omega
end Go.Proofs.Ytlcgbkeggmaljaa

namespace Go.Proofs.Ytlcgbkeggmaljaa
set_option linter.unusedVariables false
set_option linter.unusedSimpArgs false

theorem gd_ne {d : List Int} {a b : Nat} {x : Int} (h : a ≠ b) : gD (d.set a x) b = gD d b := by
  unfold gD
  rw [List.getD_eq_getElem?_getD, List.getD_eq_getElem?_getD, List.getElem?_set_ne h]
theorem gd_eq {d : List Int} {a : Nat} {x : Int} (h : a < d.length) : gD (d.set a x) a = x := by
  unfold gD
  rw [List.getD_eq_getElem?_getD, List.getElem?_set_self h]
  rfl
/-- what holds of a numbering between two steps; G: the nodes whose visit is under way. -/
structure SInv (S : List (List Nat)) (G : List Nat) (s : TS) : Prop where
  li : s.ix.length = S.length
  ll : s.lo.length = S.length
  lc : s.co.length = S.length
  n1 : 1 ≤ s.nx
  ixb : ∀ k, k < S.length → 0 ≤ gD s.ix k ∧ gD s.ix k < s.nx
  cob : ∀ k, k < S.length → gD s.co k < s.ct
  wh : ∀ k, k < S.length → gD s.ix k = 0 → gD s.co k < 0
  stm : ∀ k, k ∈ s.st ↔ k < S.length ∧ gD s.ix k ≠ 0 ∧ gD s.co k < 0
  srt : s.st.Pairwise (fun a b => gD s.ix a < gD s.ix b)
  up : ∀ x ∈ s.st, ∀ y ∈ s.st, gD s.ix x ≤ gD s.ix y → Rch S x y
  gr : ∀ y ∈ s.st, ∃ x ∈ G, x ∈ s.st ∧ gD s.ix x ≤ gD s.ix y ∧ Rch S y x
  gs : ∀ g ∈ G, g ∈ s.st
  bl : ∀ k, k < S.length → gD s.ix k ≠ 0 → k ∉ G → ∀ j ∈ S.getD k [], gD s.ix j ≠ 0
  dn : ∀ k, k < S.length → 0 ≤ gD s.co k → ∀ j ∈ S.getD k [], 0 ≤ gD s.co j
  sc : ∀ a b, a < S.length → b < S.length → 0 ≤ gD s.co a → 0 ≤ gD s.co b → (gD s.co a = gD s.co b ↔ Rch S a b ∧ Rch S b a)
/-- what a visit brings about. -/
structure VPost (S : List (List Nat)) (G : List Nat) (s : TS) (n : Nat) (s' : TS) : Prop where
  inv : SInv S G s'
  fi : ∀ k, k < S.length → gD s.ix k ≠ 0 → gD s'.ix k = gD s.ix k
  fl : ∀ k, k < S.length → gD s.ix k ≠ 0 → gD s'.lo k = gD s.lo k
  nx : s.nx ≤ s'.nx
  st : ∃ zs, s'.st = s.st ++ zs ∧ ∀ x ∈ zs, ∀ y ∈ S.getD x [], y ∈ s.st → gD s'.lo n ≤ gD s.ix y
  nw : gD s'.ix n ≠ 0
  low : (∃ y ∈ s.st, gD s.ix y = gD s'.lo n ∧ Rch S n y) ∨ (s.nx : Int) ≤ gD s'.lo n
/-- what holds behind some successors of a node. -/
structure FInv (S : List (List Nat)) (G : List Nat) (s : TS) (n : Nat) (pre : List Nat) (t : TS) : Prop where
  inv : SInv S (n :: G) t
  fi : ∀ k, k < S.length → gD s.ix k ≠ 0 → gD t.ix k = gD s.ix k
  fl : ∀ k, k < S.length → gD s.ix k ≠ 0 → gD t.lo k = gD s.lo k
  nx : s.nx + 1 ≤ t.nx
  ixn : gD t.ix n = (s.nx : Int)
  lon : gD t.lo n ≤ (s.nx : Int)
  st : ∃ zs, t.st = s.st ++ n :: zs ∧ ∀ x ∈ zs, ∀ y ∈ S.getD x [], y ∈ s.st → gD t.lo n ≤ gD s.ix y
  pre : ∀ k ∈ pre, gD t.ix k ≠ 0 ∧ (k ∈ s.st → gD t.lo n ≤ gD s.ix k)
  low : ∃ y ∈ t.st, gD t.ix y = gD t.lo n ∧ Rch S n y
theorem SInv.low {S : List (List Nat)} {G : List Nat} {s : TS} (h : SInv S G s) (n : Nat) (x : Int) : SInv S G (tlow s n x) :=
  ⟨h.li, by show (s.lo.set n _).length = _; rw [List.length_set, h.ll], h.lc, h.n1, h.ixb, h.cob, h.wh, h.stm, h.srt, h.up, h.gr, h.gs, h.bl, h.dn, h.sc⟩
/-- a node is entered. -/
theorem SInv.mark {S : List (List Nat)} {G : List Nat} {s : TS} (h : SInv S G s) {n : Nat} (hn : n < S.length) (h0 : gD s.ix n = 0) (hg : ∀ g ∈ G, Rch S g n) : FInv S G s n [] (tmark s n) := by
  have hnst : n ∉ s.st := fun hm => ((h.stm n).1 hm).2.1 h0
  have hn1 := h.n1
  have e1 : gD (tmark s n).ix n = (s.nx : Int) := gd_eq (by rw [h.li]; exact hn)
  have e2 : ∀ k, k ≠ n → gD (tmark s n).ix k = gD s.ix k := fun k hk => gd_ne (fun e => hk e.symm)
  have e3 : gD (tmark s n).lo n = (s.nx : Int) := gd_eq (by rw [h.ll]; exact hn)
  have e4 : ∀ k, k ≠ n → gD (tmark s n).lo k = gD s.lo k := fun k hk => gd_ne (fun e => hk e.symm)
  have es : ∀ k, k ∈ (tmark s n).st ↔ k ∈ s.st ∨ k = n := fun k => by show k ∈ s.st ++ [n] ↔ _; simp
  have hne : ∀ k ∈ s.st, k ≠ n := fun k hk e => hnst (e ▸ hk)
  refine ⟨⟨by show (s.ix.set n _).length = _; rw [List.length_set, h.li], by show (s.lo.set n _).length = _; rw [List.length_set, h.ll], h.lc, by show 1 ≤ s.nx + 1; omega, ?_, h.cob, ?_, ?_, ?_, ?_, ?_, fun g hgG => (es g).2 ((List.mem_cons.1 hgG).symm.imp (h.gs g) id), ?_, h.dn, h.sc⟩, ?_, ?_, Nat.le_refl _, e1, by rw [e3]; exact Int.le_refl _, ⟨[], rfl, fun x hx => by simp at hx⟩, fun k hk => by simp at hk, ⟨n, (es n).2 (.inr rfl), e1.trans e3.symm, .refl n⟩⟩
  · intro k hk
    show 0 ≤ gD (tmark s n).ix k ∧ gD (tmark s n).ix k < ((s.nx + 1 : Nat) : Int)
    by_cases e : k = n
    · subst e; rw [e1]; omega
    · rw [e2 k e]; have := h.ixb k hk; omega
  · intro k hk hz
    by_cases e : k = n
    · subst e; rw [e1] at hz; omega
    · rw [e2 k e] at hz; exact h.wh k hk hz
  · intro k
    rw [es]
    show _ ↔ k < S.length ∧ gD (tmark s n).ix k ≠ 0 ∧ gD s.co k < 0
    by_cases e : k = n
    · subst e; rw [e1]; exact ⟨fun _ => ⟨hn, by omega, h.wh k hn h0⟩, fun _ => .inr rfl⟩
    · rw [e2 k e, h.stm]; exact ⟨fun h => h.resolve_right e, .inl⟩
  · show (s.st ++ [n]).Pairwise _
    refine List.pairwise_append.2 ⟨h.srt.imp_of_mem fun ha hb hab => ?_, by simp, fun a ha b hb => ?_⟩
    · rw [e2 _ (hne _ ha), e2 _ (hne _ hb)]; exact hab
    · rw [List.mem_singleton] at hb
      subst hb
      rw [e1, e2 _ (hne _ ha)]
      exact (h.ixb a ((h.stm a).1 ha).1).2
  · intro x hx y hy hxy
    rcases (es x).1 hx with hx' | hx' <;> rcases (es y).1 hy with hy' | hy'
    · rw [e2 _ (hne _ hx'), e2 _ (hne _ hy')] at hxy; exact h.up x hx' y hy' hxy
    · subst hy'
      obtain ⟨g, hg1, _, _, hg2⟩ := h.gr x hx'
      exact hg2.trans (hg g hg1)
    · subst hx'
      rw [e1, e2 _ (hne _ hy')] at hxy
      have := (h.ixb y ((h.stm y).1 hy').1).2
      omega
    · subst hx'; subst hy'; exact .refl _
  · intro y hy
    rcases (es y).1 hy with hy | hy
    · obtain ⟨x, h1, h2, h3, h4⟩ := h.gr y hy
      exact ⟨x, List.mem_cons_of_mem _ h1, (es x).2 (.inl h2), by rw [e2 _ (hne _ h2), e2 _ (hne _ hy)]; exact h3, h4⟩
    · subst hy; exact ⟨y, by simp, (es y).2 (.inr rfl), Int.le_refl _, .refl y⟩
  · intro k hk hz hkG j hj
    have hkn : k ≠ n := fun e => hkG (by rw [e]; simp)
    rw [e2 k hkn] at hz
    have := h.bl k hk hz (fun e => hkG (by simp [e])) j hj
    by_cases e : j = n
    · subst e; rw [e1]; omega
    · rw [e2 j e]; exact this
  · intro k hk hz
    exact e2 k (fun e => hz (by rw [e]; exact h0))
  · intro k hk hz
    exact e4 k (fun e => hz (by rw [e]; exact h0))
/-- a successor. -/
theorem FInv.step {S : List (List Nat)} {G : List Nat} {s t : TS} {n k : Nat} {pre : List Nat} {v : TS → Nat → TS} (hs : SInv S G s) (hn : n < S.length) (h0 : gD s.ix n = 0) (h : FInv S G s n pre t) (hk : k ∈ S.getD n []) (hkl : k < S.length)
    (hv : gD t.ix k = 0 → VPost S (n :: G) t k (v t k)) : FInv S G s n (pre ++ [k]) (tstep v n t k) := by
  have hsm : ∀ y, y ∈ s.st → y ∈ t.st := fun y hy => by obtain ⟨zs, hz, _⟩ := h.st; rw [hz]; simp [hy]
  have hsx : ∀ y, y ∈ s.st → gD t.ix y = gD s.ix y := fun y hy => h.fi y ((hs.stm y).1 hy).1 ((hs.stm y).1 hy).2.1
  have hn1 := hs.n1
  have hnt : gD t.ix n ≠ 0 := by rw [h.ixn]; omega
  have hw : ∀ j, j < S.length → gD s.ix j ≠ 0 → gD t.ix j ≠ 0 := fun j hj h1 => by rw [h.fi j hj h1]; exact h1
  have hjn : ∀ j, gD s.ix j ≠ 0 → j ≠ n := fun j h1 e => h1 (by rw [e]; exact h0)
  have hlow : ∀ (u : TS) (x : Int), u.lo.length = S.length → gD (tlow u n x).lo n = min (gD u.lo n) x := fun u x hu => gd_eq (by rw [hu]; exact hn)
  have hlo2 : ∀ (u : TS) (x : Int) (j : Nat), j ≠ n → gD (tlow u n x).lo j = gD u.lo j := fun u x j hj => gd_ne (fun e => hj e.symm)
  unfold tstep
  split
  · rename_i hz
    have p := hv hz
    have hks : k ∉ s.st := fun hm => by
      have := hw k hkl ((hs.stm k).1 hm).2.1
      exact this hz
    have hl1 : gD (v t k).lo n = gD t.lo n := p.fl n hn hnt
    have hl2 := hlow (v t k) (gD (v t k).lo k) p.inv.ll
    rw [hl1] at hl2
    have hlon := h.lon
    have hnx := h.nx
    refine ⟨p.inv.low _ _, fun j hj h1 => ?_, fun j hj h1 => ?_, Nat.le_trans h.nx p.nx, (p.fi n hn hnt).trans h.ixn, ?_, ?_, ?_, ?_⟩
    · exact (p.fi j hj (hw j hj h1)).trans (h.fi j hj h1)
    · exact (hlo2 _ _ j (hjn j h1)).trans ((p.fl j hj (hw j hj h1)).trans (h.fl j hj h1))
    · rw [hl2]; omega
    · obtain ⟨zs, hz1, hz2⟩ := h.st
      obtain ⟨ys, hy1, hy2⟩ := p.st
      refine ⟨zs ++ ys, by show (v t k).st = _; rw [hy1, hz1]; simp, fun x hx y hy hys => ?_⟩
      rw [hl2]
      rcases List.mem_append.1 hx with hx | hx
      · have := hz2 x hx y hy hys; omega
      · have h5 := hy2 x hx y hy (hsm y hys)
        rw [hsx y hys] at h5
        omega
    · intro j hj
      rcases List.mem_append.1 hj with hj | hj
      · obtain ⟨h1, h2⟩ := h.pre j hj
        by_cases hjl : j < S.length
        · exact ⟨by rw [show gD (tlow (v t k) n (gD (v t k).lo k)).ix j = gD (v t k).ix j from rfl, p.fi j hjl h1]; exact h1, fun hm => by have := h2 hm; rw [hl2]; omega⟩
        · refine ⟨?_, fun hm => absurd ((hs.stm j).1 hm).1 hjl⟩
          show gD (v t k).ix j ≠ 0
          intro e
          have := gD_lt (d := (v t k).ix) (a := j) (by rw [e]; exact Int.le_refl _)
          rw [p.inv.li] at this
          exact hjl this
      · rw [List.mem_singleton] at hj
        subst hj
        exact ⟨p.nw, fun hm => absurd hm hks⟩
    · obtain ⟨y, hy1, hy2, hy3⟩ := h.low
      obtain ⟨ys, hz1, _⟩ := p.st
      have hyt : ∀ z, z ∈ t.st → z ∈ (v t k).st ∧ gD (v t k).ix z = gD t.ix z := fun z hz => ⟨by rw [hz1]; simp [hz], p.fi z ((h.inv.stm z).1 hz).1 ((h.inv.stm z).1 hz).2.1⟩
      rcases p.low with ⟨z, hz2, hz3, hz4⟩ | hz2
      · by_cases hc : gD t.lo n ≤ gD (v t k).lo k
        · exact ⟨y, (hyt y hy1).1, by rw [hl2]; show gD (v t k).ix y = _; rw [(hyt y hy1).2, hy2]; omega, hy3⟩
        · exact ⟨z, (hyt z hz2).1, by rw [hl2]; show gD (v t k).ix z = _; rw [(hyt z hz2).2, hz3]; omega, .step hk hz4⟩
      · exact ⟨y, (hyt y hy1).1, by rw [hl2]; show gD (v t k).ix y = _; rw [(hyt y hy1).2, hy2]; omega, hy3⟩
  · rename_i hz
    split
    · rename_i hc
      have hl2 := hlow t (gD t.ix k) h.inv.ll
      have hlon := h.lon
      have hkt : k ∈ t.st := (h.inv.stm k).2 ⟨hkl, hz, hc⟩
      refine ⟨h.inv.low _ _, h.fi, fun j hj h1 => (hlo2 _ _ j (hjn j h1)).trans (h.fl j hj h1), h.nx, h.ixn, by rw [hl2]; omega, ?_, ?_, ?_⟩
      · obtain ⟨zs, hz1, hz2⟩ := h.st
        refine ⟨zs, hz1, fun x hx y hy hys => ?_⟩
        have := hz2 x hx y hy hys
        rw [hl2]; omega
      · intro j hj
        rcases List.mem_append.1 hj with hj | hj
        · obtain ⟨h1, h2⟩ := h.pre j hj
          exact ⟨h1, fun hm => by have := h2 hm; rw [hl2]; omega⟩
        · rw [List.mem_singleton] at hj
          subst hj
          exact ⟨hz, fun hm => by rw [hl2, hsx j hm]; omega⟩
      · obtain ⟨y, hy1, hy2, hy3⟩ := h.low
        by_cases hc2 : gD t.lo n ≤ gD t.ix k
        · exact ⟨y, hy1, by rw [hl2]; show gD t.ix y = _; omega, hy3⟩
        · exact ⟨k, hkt, by rw [hl2]; show gD t.ix k = _; omega, .step hk (.refl k)⟩
    · rename_i hc
      refine ⟨h.inv, h.fi, h.fl, h.nx, h.ixn, h.lon, h.st, ?_, h.low⟩
      intro j hj
      rcases List.mem_append.1 hj with hj | hj
      · exact h.pre j hj
      · rw [List.mem_singleton] at hj
        subst hj
        exact ⟨hz, fun hm => absurd ((h.inv.stm j).1 (hsm j hm)).2.2 hc⟩
theorem tpopL_eq (ct : Int) (n : Nat) : ∀ (l r : List Nat) (co : List Int), n ∉ l → tpopL ct n (l ++ n :: r) co = (r, (l ++ [n]).foldl (fun co k => co.set k ct) co)
  | [], r, co, _ => by
    show (if n = n then (r, co.set n ct) else _) = _
    rw [if_pos rfl]
    rfl
  | k :: l, r, co, h => by
    show (if k = n then _ else tpopL ct n (l ++ n :: r) (co.set k ct)) = _
    rw [if_neg (fun e => h (by rw [e]; simp)), tpopL_eq ct n l r _ (fun e => h (by simp [e]))]
    rfl
theorem foldl_set_length (ct : Int) : ∀ (l : List Nat) (co : List Int), (l.foldl (fun co k => co.set k ct) co).length = co.length
  | [], _ => rfl
  | k :: l, co => by rw [List.foldl_cons, foldl_set_length ct l, List.length_set]
theorem foldl_set_get (ct : Int) (a : Nat) : ∀ (l : List Nat) (co : List Int), a < co.length → gD (l.foldl (fun co k => co.set k ct) co) a = if a ∈ l then ct else gD co a
  | [], _, _ => by simp
  | k :: l, co, h => by
    rw [List.foldl_cons, foldl_set_get ct a l _ (by rw [List.length_set]; exact h)]
    by_cases h1 : a ∈ l
    · rw [if_pos h1, if_pos (by simp [h1])]
    · rw [if_neg h1]
      by_cases h2 : k = a
      · subst h2; rw [gd_eq h, if_pos (by simp)]
      · rw [gd_ne h2, if_neg (by simp [h1, Ne.symm h2])]
/-- a node is left. -/
theorem FInv.fin {S : List (List Nat)} {G : List Nat} {s t : TS} {n : Nat} (hS : ∀ a, ∀ k ∈ S.getD a [], k < S.length) (hs : SInv S G s) (hn : n < S.length) (h0 : gD s.ix n = 0) (hg : ∀ g ∈ G, Rch S g n) (h : FInv S G s n (S.getD n []) t) : VPost S G s n (tfin t n) := by
  have hn1 := hs.n1
  have hnt : gD t.ix n ≠ 0 := by rw [h.ixn]; omega
  have hsx : ∀ y, y ∈ s.st → gD t.ix y = gD s.ix y := fun y hy => h.fi y ((hs.stm y).1 hy).1 ((hs.stm y).1 hy).2.1
  have hsl : ∀ y, y ∈ s.st → gD t.ix y < (s.nx : Int) := fun y hy => by rw [hsx y hy]; exact (hs.ixb y ((hs.stm y).1 hy).1).2
  obtain ⟨zs, hz1, hz2⟩ := h.st
  have hmem : ∀ y, y ∈ t.st ↔ y ∈ s.st ∨ y = n ∨ y ∈ zs := fun y => by rw [hz1]; simp
  have hsrt := h.inv.srt
  rw [hz1] at hsrt
  obtain ⟨_, hp1, hp2⟩ := List.pairwise_append.1 hsrt
  rw [List.pairwise_cons] at hp1
  have hzx : ∀ y ∈ zs, (s.nx : Int) < gD t.ix y := fun y hy => by have := hp1.1 y hy; rw [h.ixn] at this; exact this
  have hzn : n ∉ zs := fun hm => by have := hzx n hm; rw [h.ixn] at this; omega
  have hbl : ∀ k, k < S.length → gD t.ix k ≠ 0 → k ∉ G → ∀ j ∈ S.getD k [], gD t.ix j ≠ 0 := fun k hk hz hkG j hj => by
    by_cases e : k = n
    · subst e; exact (h.pre j hj).1
    · exact h.inv.bl k hk hz (fun hm => by rcases List.mem_cons.1 hm with hm | hm; exact e hm; exact hkG hm) j hj
  have hlon := h.lon
  have hnx := h.nx
  unfold tfin
  split
  · rename_i hlt
    rw [h.ixn] at hlt
    obtain ⟨y0, hy1, hy2, hy3⟩ := h.low
    have hy0 : y0 ∈ s.st := by
      rcases (hmem y0).1 hy1 with e | e | e
      · exact e
      · subst e; rw [h.ixn] at hy2; omega
      · have := hzx y0 e; omega
    obtain ⟨g, hg1, hg2, hg3, hg4⟩ := hs.gr y0 hy0
    refine ⟨⟨h.inv.li, h.inv.ll, h.inv.lc, h.inv.n1, h.inv.ixb, h.inv.cob, h.inv.wh, h.inv.stm, h.inv.srt, h.inv.up, ?_, fun g hgG => h.inv.gs g (by simp [hgG]), hbl, h.inv.dn, h.inv.sc⟩, h.fi, h.fl, by omega, ⟨n :: zs, hz1, fun x hx y hy hys => ?_⟩, hnt, .inl ⟨y0, hy0, by rw [← hsx y0 hy0]; exact hy2, hy3⟩⟩
    · intro y hy
      obtain ⟨x, hx1, hx2, hx3, hx4⟩ := h.inv.gr y hy
      rcases List.mem_cons.1 hx1 with e | e
      · subst e
        refine ⟨g, hg1, (hmem g).2 (.inl hg2), ?_, hx4.trans (hy3.trans hg4)⟩
        have := hsl g hg2
        rw [h.ixn] at hx3
        omega
      · exact ⟨x, e, hx2, hx3, hx4⟩
    · rcases List.mem_cons.1 hx with e | e
      · subst e; exact (h.pre y hy).2 hys
      · exact hz2 x e y hy hys
  · rename_i hlt
    rw [h.ixn] at hlt
    have hrev : t.st.reverse = zs.reverse ++ n :: s.st.reverse := by rw [hz1]; simp
    have hpop := tpopL_eq (t.ct : Int) n zs.reverse s.st.reverse t.co (by simpa using hzn)
    rw [← hrev] at hpop
    have hst : (tpop t n).st = s.st := by show (tpopL _ _ _ _).1.reverse = _; rw [hpop]; simp
    have hlc : (tpop t n).co.length = S.length := by show (tpopL _ _ _ _).2.length = _; rw [hpop, foldl_set_length]; exact h.inv.lc
    have hco : ∀ a, a < S.length → gD (tpop t n).co a = if a = n ∨ a ∈ zs then (t.ct : Int) else gD t.co a := fun a ha => by
      show gD (tpopL _ _ _ _).2 a = _
      rw [hpop, foldl_set_get _ _ _ _ (by rw [h.inv.lc]; exact ha)]
      by_cases e : a = n ∨ a ∈ zs
      · rw [if_pos e, if_pos (by simp; exact e.symm)]
      · rw [if_neg e, if_neg (by simp; exact ⟨fun hm => e (.inr hm), fun hm => e (.inl hm)⟩)]
    have hct : (0 : Int) ≤ (t.ct : Int) := by omega
    have hcC : ∀ a, a = n ∨ a ∈ zs → a ∈ t.st := fun a ha => (hmem a).2 (.inr ha)
    have hcN : ∀ a, a = n ∨ a ∈ zs → a < S.length := fun a ha => ((h.inv.stm a).1 (hcC a ha)).1
    have hsC : ∀ a, a ∈ s.st → ¬ (a = n ∨ a ∈ zs) := fun a ha hc => by
      have h1 := hsl a ha
      rcases hc with e | e
      · subst e; rw [h.ixn] at h1; omega
      · have := hzx a e; omega
    have hgeC : ∀ a, a = n ∨ a ∈ zs → (s.nx : Int) ≤ gD t.ix a := fun a ha => by
      rcases ha with e | e
      · subst e; rw [h.ixn]; exact Int.le_refl _
      · have := hzx a e; omega
    have hnC : n ∈ t.st := hcC n (.inl rfl)
    have hto : ∀ a, a = n ∨ a ∈ zs → Rch S n a ∧ Rch S a n := fun a ha => by
      refine ⟨h.inv.up n hnC a (hcC a ha) (by rw [h.ixn]; exact hgeC a ha), ?_⟩
      obtain ⟨x, hx1, hx2, hx3, hx4⟩ := h.inv.gr a (hcC a ha)
      rcases List.mem_cons.1 hx1 with e | e
      · subst e; exact hx4
      · exact hx4.trans (hg x e)
    have hdn : ∀ (a : Nat), a < S.length → 0 ≤ gD (tpop t n).co a → ∀ j ∈ S.getD a [], 0 ≤ gD (tpop t n).co j := fun a ha hz j hj => by
      rw [hco j (hS a j hj)]
      split
      · exact hct
      · rename_i hjC
        rw [hco a ha] at hz
        by_cases hc : a = n ∨ a ∈ zs
        · have hjx : gD t.ix j ≠ 0 := by
            rcases hc with e | e
            · subst e; exact (h.pre j hj).1
            · exact h.inv.bl a ha ((h.inv.stm a).1 (hcC a (.inr e))).2.1 (fun hm => by
                rcases List.mem_cons.1 hm with e2 | e2
                · exact hzn (e2 ▸ e)
                · exact hsC a (hs.gs a e2) (.inr e)) j hj
          refine Int.not_lt.1 fun hneg => ?_
          have hjt := (h.inv.stm j).2 ⟨hS a j hj, hjx, hneg⟩
          rcases (hmem j).1 hjt with e | e
          · have h5 : gD t.lo n ≤ gD s.ix j := by
              rcases hc with e2 | e2
              · subst e2; exact (h.pre j hj).2 e
              · exact hz2 a e2 j hj e
            have := hsl j e
            rw [hsx j e] at this
            omega
          · exact hjC e
        · rw [if_neg hc] at hz
          exact h.inv.dn a ha hz j hj
    have hold : ∀ a b, Rch S a b → a < S.length → 0 ≤ gD t.co a → 0 ≤ gD t.co b ∧ b < S.length := fun a b hr => by
      induction hr with
      | refl a => exact fun h1 h2 => ⟨h2, h1⟩
      | step hb _ ih => exact fun h1 h2 => ih (hS _ _ hb) (h.inv.dn _ h1 h2 _ hb)
    refine ⟨⟨h.inv.li, h.inv.ll, hlc, h.inv.n1, h.inv.ixb, ?_, ?_, ?_, ?_, ?_, ?_, by rw [hst]; exact hs.gs, hbl, hdn, ?_⟩, h.fi, h.fl, by show s.nx ≤ t.nx; omega, ⟨[], by rw [hst]; simp, fun x hx => by simp at hx⟩, hnt, .inr (by show (s.nx : Int) ≤ gD t.lo n; omega)⟩
    · intro k hk
      rw [hco k hk]
      show _ < ((t.ct + 1 : Nat) : Int)
      have := h.inv.cob k hk
      split <;> omega
    · intro k hk hz
      rw [hco k hk, if_neg (fun hc => ((h.inv.stm k).1 (hcC k hc)).2.1 hz)]
      exact h.inv.wh k hk hz
    · intro k
      rw [hst]
      constructor
      · intro hk
        have h1 := (h.inv.stm k).1 ((hmem k).2 (.inl hk))
        exact ⟨h1.1, h1.2.1, by rw [hco k h1.1, if_neg (hsC k hk)]; exact h1.2.2⟩
      · rintro ⟨h1, h2, h3⟩
        rw [hco k h1] at h3
        by_cases hc : k = n ∨ k ∈ zs
        · rw [if_pos hc] at h3; omega
        · rw [if_neg hc] at h3
          exact ((hmem k).1 ((h.inv.stm k).2 ⟨h1, h2, h3⟩)).resolve_right hc
    · rw [hst]
      exact (List.pairwise_append.1 hsrt).1
    · rw [hst]
      exact fun x hx y hy hxy => h.inv.up x ((hmem x).2 (.inl hx)) y ((hmem y).2 (.inl hy)) hxy
    · rw [hst]
      intro y hy
      obtain ⟨x, hx1, hx2, hx3, hx4⟩ := h.inv.gr y ((hmem y).2 (.inl hy))
      have h1 := hsl y hy
      have hxs : x ∈ s.st := by
        rcases (hmem x).1 hx2 with e | e
        · exact e
        · have := hgeC x e; omega
      refine ⟨x, ?_, hxs, hx3, hx4⟩
      rcases List.mem_cons.1 hx1 with e | e
      · exact absurd (.inl e) (hsC x hxs)
      · exact e
    · intro a b ha hb hca hcb
      rw [hco a ha] at hca ⊢
      rw [hco b hb] at hcb ⊢
      by_cases ca : a = n ∨ a ∈ zs <;> by_cases cb : b = n ∨ b ∈ zs
      · rw [if_pos ca, if_pos cb]
        exact ⟨fun _ => ⟨(hto a ca).2.trans (hto b cb).1, (hto b cb).2.trans (hto a ca).1⟩, fun _ => rfl⟩
      · rw [if_pos ca, if_neg cb]
        rw [if_neg cb] at hcb
        have h1 := h.inv.cob b hb
        have h2 := ((h.inv.stm a).1 (hcC a ca)).2.2
        exact ⟨fun e => by omega, fun e => by have := (hold b a e.2 hb hcb).1; omega⟩
      · rw [if_neg ca, if_pos cb]
        rw [if_neg ca] at hca
        have h1 := h.inv.cob a ha
        have h2 := ((h.inv.stm b).1 (hcC b cb)).2.2
        exact ⟨fun e => by omega, fun e => by have := (hold a b e.1 ha hca).1; omega⟩
      · rw [if_neg ca, if_neg cb]
        rw [if_neg ca] at hca
        rw [if_neg cb] at hcb
        exact h.inv.sc a b ha hb hca hcb
/-- the successors of a node, one after the other. -/
theorem FInv.fold {S : List (List Nat)} {G : List Nat} {s : TS} {n f : Nat} {v : TS → Nat → TS} (hs : SInv S G s) (hn : n < S.length) (h0 : gD s.ix n = 0)
    (hv : ∀ (t : TS) (k : Nat), zeros t.ix ≤ f → TInv S.length t → SInv S (n :: G) t → k < S.length → gD t.ix k = 0 → k ∈ S.getD n [] → VPost S (n :: G) t k (v t k) ∧ TInv S.length (v t k) ∧ TRel t (v t k)) :
    ∀ (l pre : List Nat) (t : TS), (∀ k ∈ l, k ∈ S.getD n [] ∧ k < S.length) → zeros t.ix ≤ f → TInv S.length t → FInv S G s n pre t → FInv S G s n (pre ++ l) (l.foldl (tstep v n) t)
  | [], pre, t, _, _, _, h => by rw [List.append_nil]; exact h
  | k :: l, pre, t, hl, hz, ht, h => by
    have hk := hl k (by simp)
    have h1 := h.step (v := v) hs hn h0 hk.1 hk.2 (fun e => (hv t k hz ht h.inv hk.2 e hk.1).1)
    have h2 : TInv S.length (tstep v n t k) ∧ zeros (tstep v n t k).ix ≤ f := by
      unfold tstep
      split
      · obtain ⟨_, a, b⟩ := hv t k hz ht h.inv hk.2 ‹_› hk.1
        exact ⟨a.low _ _, Nat.le_trans b.z hz⟩
      · split
        · exact ⟨ht.low _ _, hz⟩
        · exact ⟨ht, hz⟩
    have := FInv.fold hs hn h0 hv l (pre ++ [k]) (tstep v n t k) (fun j hj => hl j (by simp [hj])) h2.2 h2.1 h1
    rw [List.append_assoc] at this
    exact this
theorem visitT_scc {S : List (List Nat)} (hS : ∀ a, ∀ k ∈ S.getD a [], k < S.length) : ∀ (f : Nat) (G : List Nat) (s : TS) (n : Nat), zeros s.ix ≤ f → TInv S.length s → SInv S G s → n < S.length → gD s.ix n = 0 → (∀ g ∈ G, Rch S g n) → VPost S G s n (visitT S f s n)
  | 0, G, s, n, hz, ht, h, hn, h0, hg => by
    have := zeros_set s.ix n 1 (by rw [h.li]; exact hn) h0 (by decide)
    omega
  | f + 1, G, s, n, hz, ht, h, hn, h0, hg => by
    obtain ⟨m1, m2⟩ := ht.mark hn h0
    have hf := FInv.fold (v := visitT S f) (f := f) h hn h0 (fun t k a b c d e hk => ⟨visitT_scc hS f (n :: G) t k a b c d e (fun g hgG => by
      rcases List.mem_cons.1 hgG with e | e
      · subst e; exact .step hk (.refl k)
      · exact (hg g e).trans (.step hk (.refl k))), visitT_ok hS f t k a b d e⟩) (S.getD n []) [] (tmark s n) (fun k hk => ⟨hk, hS n k hk⟩) (by omega) m1 (h.mark hn h0 hg)
    rw [List.nil_append] at hf
    exact hf.fin hS h hn h0 hg
theorem tinit_scc (S : List (List Nat)) : SInv S [] (tinit S.length) := by
  have h1 : ∀ k, k < S.length → gD (tinit S.length).ix k = 0 := fun k hk => by
    show (List.replicate S.length (0 : Int)).getD k (-1) = 0
    rw [List.getD_eq_getElem?_getD, List.getElem?_replicate, if_pos hk]; rfl
  have h2 : ∀ k, k < S.length → gD (tinit S.length).co k = -1 := fun k hk => gD_rep _ _
  refine ⟨by simp [tinit], by simp [tinit], by simp [tinit], Nat.le_refl _, ?_, ?_, ?_, ?_, by simp [tinit], by simp [tinit], by simp [tinit], by simp, ?_, ?_, ?_⟩
  · intro k hk; rw [h1 k hk]; exact ⟨Int.le_refl _, by show (0 : Int) < ((1 : Nat) : Int); decide⟩
  · intro k hk; rw [h2 k hk]; show (-1 : Int) < ((0 : Nat) : Int); decide
  · intro k hk _; rw [h2 k hk]; decide
  · intro k
    constructor
    · intro h; simp [tinit] at h
    · rintro ⟨a, b, _⟩; exact absurd (h1 k a) b
  · intro k hk h; exact absurd (h1 k hk) h
  · intro k hk h; rw [h2 k hk] at h; omega
  · intro a b ha _ h; rw [h2 a ha] at h; omega
theorem trun_scc {S : List (List Nat)} (hS : ∀ a, ∀ k ∈ S.getD a [], k < S.length) : ∀ k, k ≤ S.length → SInv S [] (trun S k) ∧ ∀ j, j < k → gD (trun S k).ix j ≠ 0
  | 0, _ => ⟨tinit_scc S, fun j hj => absurd hj (Nat.not_lt_zero _)⟩
  | k + 1, h => by
    obtain ⟨h1, h2⟩ := trun_scc hS k (by omega)
    have ht := tarj_inv hS k (by omega)
    rw [trun_succ]
    unfold tround
    split
    · rename_i hz
      have p := visitT_scc hS S.length [] (trun S k) k (by have := zeros_le (trun S k).ix; rw [h1.li] at this; exact this) ht h1 (by omega) hz (by simp)
      refine ⟨p.inv, fun j hj => ?_⟩
      by_cases e : j = k
      · subst e; exact p.nw
      · rw [p.fi j (by omega) (h2 j (by omega))]; exact h2 j (by omega)
    · rename_i hz
      refine ⟨h1, fun j hj => ?_⟩
      by_cases e : j = k
      · subst e; exact hz
      · exact h2 j (by omega)
/-- each node has a number, and two nodes have one number exactly if they reach each other. -/
theorem tarjan_scc {S : List (List Nat)} (hS : ∀ a, ∀ k ∈ S.getD a [], k < S.length) : (∀ k, k < S.length → 0 ≤ gD (tarjan S).co k ∧ gD (tarjan S).co k < (tarjan S).ct) ∧
    ∀ a b, a < S.length → b < S.length → (gD (tarjan S).co a = gD (tarjan S).co b ↔ Rch S a b ∧ Rch S b a) := by
  obtain ⟨h1, h2⟩ := trun_scc hS S.length (Nat.le_refl _)
  have he : trun S S.length = tarjan S := rfl
  rw [he] at h1 h2
  have h3 : ∀ k, k < S.length → 0 ≤ gD (tarjan S).co k := fun k hk => by
    refine Int.not_lt.1 fun hneg => ?_
    obtain ⟨x, hx, _⟩ := h1.gr k ((h1.stm k).2 ⟨hk, h2 k hk, hneg⟩)
    simp at hx
  exact ⟨fun k hk => ⟨h3 k hk, h1.cob k hk⟩, fun a b ha hb => h1.sc a b ha hb (h3 a ha) (h3 b hb)⟩
end Go.Proofs.Ytlcgbkeggmaljaa

namespace Go.Proofs.Ytlcgbkeggmaljaa
set_option linter.unusedVariables false
set_option linter.unusedSimpArgs false

theorem numbered (N : Nat) (es : List (Int × Int)) : Numbered N es := fun n hn => (tarjan_scc (S := sucs N es) sucs_lt).1 n (by rw [sucs_length]; exact hn)
/-- what holds of the components behind k nodes. -/
structure KInv (co : List Int) (k : Nat) (st : List Int × List (List Nat)) : Prop where
  inj : ∀ c c', 0 ≤ gD st.1 c → gD st.1 c = gD st.1 c' → c = c'
  row : ∀ p n, n ∈ st.2.getD p [] ↔ n < k ∧ gD st.1 (gD co n).toNat = (p : Int)
  srt : ∀ p, (st.2.getD p []).Pairwise (· < ·)
  hd : ∀ p, p < st.2.length → ∃ a, (st.2.getD p []).head? = some a ∧ ∀ q, p < q → ∀ b ∈ st.2.getD q [], a < b
theorem cstepN_eq {co : List Int} {ct k : Nat} {st : List Int × List (List Nat)} (h : CInv co ct k st) (hc : (gD co k).toNat < ct) :
    ∃ p0 : Nat, (gD st.1 (gD co k).toNat = (p0 : Int) ∨ (gD st.1 (gD co k).toNat < 0 ∧ p0 = st.2.length)) ∧ p0 ≤ st.2.length ∧ (∀ c, gD (cstepN co st k).1 c = if c = (gD co k).toNat then (p0 : Int) else gD st.1 c) ∧
      (∀ p, (cstepN co st k).2.getD p [] = if p = p0 then st.2.getD p [] ++ [k] else st.2.getD p []) ∧ (cstepN co st k).2.length = max st.2.length (p0 + 1) := by
  unfold cstepN
  generalize (gD co k).toNat = c0 at *
  unfold cput
  by_cases hlt : gD st.1 c0 < 0
  · rw [if_pos hlt]
    have hg : gD (st.1.set c0 (st.2.length : Int)) c0 = (st.2.length : Int) := by rw [gD_set', if_pos ⟨rfl, by rw [h.len]; exact hc⟩]
    refine ⟨st.2.length, .inr ⟨hlt, rfl⟩, Nat.le_refl _, fun c => ?_, fun p => ?_, ?_⟩
    · show gD (st.1.set c0 _) c = _
      rw [gD_set']
      by_cases e : c = c0
      · rw [if_pos e, if_pos ⟨e, by rw [h.len]; exact hc⟩]
      · rw [if_neg e, if_neg (fun h => e h.1)]
    · show (List.set (st.2 ++ [[]]) (gD (st.1.set c0 _) c0).toNat _).getD p [] = _
      rw [getD_set_row, hg, Int.toNat_natCast]
      have e1 : ∀ q, (st.2 ++ [[]]).getD q [] = st.2.getD q [] := fun q => by
        rw [List.getD_eq_getElem?_getD, List.getD_eq_getElem?_getD, List.getElem?_append]
        split
        · rfl
        · rename_i hq
          rw [List.getElem?_eq_none (l := st.2) (by omega)]
          cases e : [([] : List Nat)][q - st.2.length]? with
          | none => rfl
          | some r => have := List.mem_of_getElem? e; simp at this; simp [this]
      rw [e1, e1]
      by_cases e : p = st.2.length
      · rw [if_pos e, if_pos ⟨e, by simp⟩, e]
      · rw [if_neg e, if_neg (fun h => e h.1)]
    · show (List.set (st.2 ++ [[]]) _ _).length = _
      rw [List.length_set, List.length_append, List.length_singleton]; omega
  · rw [if_neg hlt]
    obtain ⟨p0, hp⟩ : ∃ p0 : Nat, gD st.1 c0 = (p0 : Int) := ⟨(gD st.1 c0).toNat, by omega⟩
    have hhi := h.hi c0
    refine ⟨p0, .inl hp, by omega, fun c => ?_, fun p => ?_, ?_⟩
    · show gD st.1 c = _
      by_cases e : c = c0
      · rw [if_pos e, e, hp]
      · rw [if_neg e]
    · show (List.set st.2 (gD st.1 c0).toNat _).getD p [] = _
      rw [getD_set_row, hp, Int.toNat_natCast]
      by_cases e : p = p0
      · rw [if_pos e, if_pos ⟨e, by omega⟩, e]
      · rw [if_neg e, if_neg (fun h => e h.1)]
    · show (List.set st.2 _ _).length = _
      rw [List.length_set]; omega
theorem KInv.step {co : List Int} {ct k : Nat} {st : List Int × List (List Nat)} (h : CInv co ct k st) (hk : KInv co k st) (hc : (gD co k).toNat < ct) : KInv co (k + 1) (cstepN co st k) := by
  obtain ⟨p0, h1, h2, h3, h4, h5⟩ := cstepN_eq h hc
  have hold : ∀ n, n < k → (gD co n).toNat = (gD co k).toNat → gD st.1 (gD co k).toNat = (p0 : Int) := fun n hn e => by
    have := h.old n hn
    rw [e] at this
    rcases h1 with h1 | ⟨h1, _⟩
    · exact h1
    · omega
  have hrow : ∀ p n, n ∈ st.2.getD p [] → n < k := fun p n hn => ((hk.row p n).1 hn).1
  refine ⟨fun c c' hz he => ?_, fun p n => ?_, fun p => ?_, fun p hp => ?_⟩
  · rw [h3] at hz
    rw [h3, h3] at he
    by_cases e1 : c = (gD co k).toNat <;> by_cases e2 : c' = (gD co k).toNat
    · rw [e1, e2]
    · rw [if_pos e1, if_neg e2] at he
      rcases h1 with h1 | ⟨_, h1⟩
      · exact e1.trans (hk.inj _ _ (by omega) (h1.trans he))
      · have := h.hi c'; omega
    · rw [if_neg e1, if_pos e2] at he
      rw [if_neg e1] at hz
      rcases h1 with h1 | ⟨_, h1⟩
      · exact (hk.inj _ _ hz (he.trans h1.symm)).trans e2.symm
      · have := h.hi c; omega
    · rw [if_neg e1, if_neg e2] at he
      rw [if_neg e1] at hz
      exact hk.inj c c' hz he
  · rw [h4, h3]
    by_cases ep : p = p0
    · rw [if_pos ep, List.mem_append, List.mem_singleton, hk.row]
      by_cases e : n = k
      · subst e; rw [if_pos rfl, ep]; exact ⟨fun _ => ⟨by omega, rfl⟩, fun _ => .inr rfl⟩
      · by_cases ec : (gD co n).toNat = (gD co k).toNat
        · rw [if_pos ec, ec, ep]
          exact ⟨fun hh => ⟨by have := hh.resolve_right e; omega, rfl⟩, fun hh => .inl ⟨by omega, hold n (by omega) ec⟩⟩
        · rw [if_neg ec]
          exact ⟨fun hh => ⟨by have := hh.resolve_right e; omega, (hh.resolve_right e).2⟩, fun hh => .inl ⟨by omega, hh.2⟩⟩
    · rw [if_neg ep, hk.row]
      by_cases e : n = k
      · subst e; rw [if_pos rfl]; exact ⟨fun hh => by omega, fun hh => by omega⟩
      · by_cases ec : (gD co n).toNat = (gD co k).toNat
        · rw [if_pos ec, ec]
          refine ⟨fun hh => ?_, fun hh => by omega⟩
          have := hold n hh.1 ec
          omega
        · rw [if_neg ec]
          exact ⟨fun hh => ⟨by omega, hh.2⟩, fun hh => ⟨by omega, hh.2⟩⟩
  · rw [h4]
    split
    · exact List.pairwise_append.2 ⟨hk.srt p, by simp, fun a ha b hb => by rw [List.mem_singleton] at hb; have := hrow p a ha; omega⟩
    · exact hk.srt p
  · rw [h5] at hp
    by_cases hpl : p < st.2.length
    · obtain ⟨a, ha, hq⟩ := hk.hd p hpl
      refine ⟨a, ?_, fun q hpq b hb => ?_⟩
      · rw [h4]
        split
        · rw [List.head?_append, ha]; rfl
        · exact ha
      · rw [h4] at hb
        have hak : a < k := hrow p a (List.mem_of_mem_head? ha)
        split at hb
        · rcases List.mem_append.1 hb with hb | hb
          · exact hq q hpq b hb
          · rw [List.mem_singleton] at hb; omega
        · exact hq q hpq b hb
    · have ep : p = p0 := by omega
      have hnil : ∀ q, st.2.length ≤ q → st.2.getD q [] = [] := fun q hq => by rw [List.getD_eq_getElem?_getD, List.getElem?_eq_none (by omega)]; rfl
      refine ⟨k, ?_, fun q hpq b hb => ?_⟩
      · rw [h4, if_pos ep, hnil p (by omega)]; rfl
      · rw [h4, if_neg (by omega), hnil q (by omega)] at hb; simp at hb
theorem crun_kinv {co : List Int} {ct N : Nat} (hco : ∀ n, n < N → 0 ≤ gD co n ∧ gD co n < (ct : Int)) : ∀ k, k ≤ N → KInv co k (crun co ct k)
  | 0, _ => by
    have hg : ∀ c, gD (List.replicate ct (-1 : Int)) c = -1 := fun c => gD_rep _ _
    refine ⟨fun c c' hz => ?_, fun p n => ?_, fun p => by simp [crun], fun p hp => by simp [crun] at hp⟩
    · have : gD (crun co ct 0).1 c = -1 := hg c
      omega
    · simp [crun]
  | k + 1, h => by
    rw [crun_succ]
    exact (crun_kinv hco k (by omega)).step (crun_inv hco k (by omega)) (by have := hco k (by omega); omega)
/-- the place of a node's component. -/
def clG (N : Nat) (es : List (Int × Int)) (n : Nat) : Nat := (gD (crun (tarG N es).co (tarG N es).ct N).1 (gD (tarG N es).co n).toNat).toNat
theorem clG_int {N : Nat} {es : List (Int × Int)} {n : Nat} (hn : n < N) : gD (crun (tarG N es).co (tarG N es).ct N).1 (gD (tarG N es).co n).toNat = (clG N es n : Int) := by
  have := (crun_inv (numbered N es) N (Nat.le_refl _)).old n hn
  unfold clG
  omega
theorem clG_lt {N : Nat} {es : List (Int × Int)} {n : Nat} (hn : n < N) : clG N es n < (nodesG N es).length := by
  have h1 := (crun_inv (numbered N es) N (Nat.le_refl _)).hi (gD (tarG N es).co n).toNat
  rw [clG_int hn] at h1
  unfold nodesG
  omega
/-- the nodes of a component. -/
theorem nodesG_mem {N : Nat} {es : List (Int × Int)} {p n : Nat} : n ∈ (nodesG N es).getD p [] ↔ n < N ∧ clG N es n = p := by
  have h := (crun_kinv (numbered N es) N (Nat.le_refl _)).row p n
  refine h.trans (and_congr_right fun hn => ?_)
  rw [clG_int hn]
  omega
theorem nodesG_srt (N : Nat) (es : List (Int × Int)) (p : Nat) : ((nodesG N es).getD p []).Pairwise (· < ·) := (crun_kinv (numbered N es) N (Nat.le_refl _)).srt p
theorem nodesG_hd {N : Nat} {es : List (Int × Int)} {p : Nat} (hp : p < (nodesG N es).length) : ∃ a, ((nodesG N es).getD p []).head? = some a ∧ ∀ q, p < q → ∀ b ∈ (nodesG N es).getD q [], a < b := (crun_kinv (numbered N es) N (Nat.le_refl _)).hd p hp
/-- two nodes are in one component exactly if they reach each other. -/
theorem clG_co {N : Nat} {es : List (Int × Int)} {a b : Nat} (ha : a < N) (hb : b < N) : clG N es a = clG N es b ↔ gD (tarG N es).co a = gD (tarG N es).co b := by
  constructor
  · intro e
    have h1 := clG_int (es := es) ha
    have h2 := clG_int (es := es) hb
    have := (crun_kinv (numbered N es) N (Nat.le_refl _)).inj (gD (tarG N es).co a).toNat (gD (tarG N es).co b).toNat (by rw [h1]; omega) (by rw [h1, h2, e])
    have h3 := numbered N es a ha
    have h4 := numbered N es b hb
    omega
  · intro e
    unfold clG
    rw [e]
theorem clG_eq {N : Nat} {es : List (Int × Int)} {a b : Nat} (ha : a < N) (hb : b < N) : clG N es a = clG N es b ↔ Rch (sucs N es) a b ∧ Rch (sucs N es) b a :=
  (clG_co ha hb).trans ((tarjan_scc (S := sucs N es) sucs_lt).2 a b (by rw [sucs_length]; exact ha) (by rw [sucs_length]; exact hb))
theorem cedges_mem {N : Nat} {es : List (Int × Int)} {n : Nat} (hn : n < N) (p d : Nat) : ∀ (l : List Nat) (out : List (List Nat)), (∀ k ∈ l, k < N) → out.length = (nodesG N es).length →
    (d ∈ (l.foldl (cedge (tarG N es).co (crun (tarG N es).co (tarG N es).ct N).1 n) out).getD p [] ↔ d ∈ out.getD p [] ∨ ∃ k ∈ l, clG N es n = p ∧ clG N es k = d ∧ p ≠ d)
  | [], out, _, _ => by simp
  | k :: l, out, hl, ho => by
    have hk := hl k (by simp)
    have hcl := clG_lt (es := es) hn
    rw [List.foldl_cons, cedges_mem hn p d l _ (fun j hj => hl j (by simp [hj])) (by unfold cedge; split; exact ho; rw [List.length_set]; exact ho)]
    have key : d ∈ (cedge (tarG N es).co (crun (tarG N es).co (tarG N es).ct N).1 n out k).getD p [] ↔ d ∈ out.getD p [] ∨ (clG N es n = p ∧ clG N es k = d ∧ p ≠ d) := by
      unfold cedge
      by_cases e : gD (tarG N es).co k = gD (tarG N es).co n
      · rw [if_pos e]
        have := (clG_co (es := es) hk hn).2 e
        exact ⟨.inl, fun h => h.resolve_right fun ⟨h1, h2, h3⟩ => h3 (by omega)⟩
      · rw [if_neg e, getD_set_row]
        have hne : clG N es k ≠ clG N es n := fun e2 => e ((clG_co (es := es) hk hn).1 e2)
        show d ∈ (if p = clG N es n ∧ clG N es n < out.length then out.getD (clG N es n) [] ++ [clG N es k] else out.getD p []) ↔ _
        by_cases ep : p = clG N es n
        · rw [if_pos ⟨ep, by omega⟩, List.mem_append, List.mem_singleton, ← ep]
          exact or_congr_right ⟨fun e2 => ⟨rfl, e2.symm, by omega⟩, fun h => h.2.1.symm⟩
        · rw [if_neg (fun h => ep h.1)]
          exact ⟨.inl, fun h => h.resolve_right fun h => ep h.1.symm⟩
    rw [key, or_assoc]
    refine or_congr_right ⟨?_, ?_⟩
    · rintro (h | ⟨j, hj, h⟩)
      · exact ⟨k, by simp, h⟩
      · exact ⟨j, by simp [hj], h⟩
    · rintro ⟨j, hj, h⟩
      rcases List.mem_cons.1 hj with rfl | hj
      · exact .inl h
      · exact .inr ⟨j, hj, h⟩
theorem couts_mem {N : Nat} {es : List (Int × Int)} (p d : Nat) : ∀ k, k ≤ N →
    (d ∈ (couts (tarG N es).co (crun (tarG N es).co (tarG N es).ct N).1 (sucs N es) (nodesG N es).length k).getD p [] ↔ ∃ n j, n < k ∧ j ∈ (sucs N es).getD n [] ∧ clG N es n = p ∧ clG N es j = d ∧ p ≠ d)
  | 0, _ => by
    have : (couts (tarG N es).co (crun (tarG N es).co (tarG N es).ct N).1 (sucs N es) (nodesG N es).length 0).getD p [] = [] := by
      show (List.replicate (nodesG N es).length []).getD p [] = []
      rw [List.getD_eq_getElem?_getD, List.getElem?_replicate]
      split <;> rfl
    rw [this]
    exact ⟨fun h => by simp at h, fun ⟨n, j, h, _⟩ => by omega⟩
  | k + 1, hk => by
    rw [couts_succ, cedges_mem (by omega) p d _ _ (fun j hj => by have := sucs_lt (N := N) (es := es) k j hj; rwa [sucs_length] at this) (couts_len (fun a => sucs_row a) k).1, couts_mem p d k (by omega)]
    constructor
    · rintro (⟨n, j, h1, h2⟩ | ⟨j, hj, h2⟩)
      · exact ⟨n, j, by omega, h2⟩
      · exact ⟨k, j, by omega, hj, h2⟩
    · rintro ⟨n, j, h1, h2, h3⟩
      by_cases e : n = k
      · subst e; exact .inr ⟨j, h2, h3⟩
      · exact .inl ⟨n, j, by omega, h2, h3⟩
/-- the edges between components. -/
theorem condG_mem {N : Nat} {es : List (Int × Int)} {p d : Nat} : d ∈ (condG N es).getD p [] ↔ ∃ n j, n < N ∧ j ∈ (sucs N es).getD n [] ∧ clG N es n = p ∧ clG N es j = d ∧ p ≠ d := couts_mem p d N (Nat.le_refl _)
/-- how many nodes a component reaches. -/
noncomputable def rankG (N : Nat) (es : List (Int × Int)) (p : Nat) : Nat := ((List.range N).filter fun k => @decide (∃ n, n < N ∧ clG N es n = p ∧ Rch (sucs N es) n k) (Classical.propDecidable _)).length
theorem filter_lt {α : Type} (P Q : α → Bool) (x : α) : ∀ (l : List α), (∀ a ∈ l, P a = true → Q a = true) → x ∈ l → P x = false → Q x = true → (l.filter P).length < (l.filter Q).length
  | [], _, hx, _, _ => by simp at hx
  | y :: l, h, hx, h1, h2 => by
    have hle : ∀ (m : List α), (∀ a ∈ m, P a = true → Q a = true) → (m.filter P).length ≤ (m.filter Q).length := fun m => by
      induction m with
      | nil => intro _; simp
      | cons z m ih =>
        intro hm
        have := ih (fun a ha => hm a (by simp [ha]))
        rw [List.filter_cons, List.filter_cons]
        have hz := hm z (by simp)
        cases hp : P z <;> cases hq : Q z <;> simp [hp, hq] at * <;> omega
    rw [List.filter_cons, List.filter_cons]
    rcases List.mem_cons.1 hx with rfl | hx
    · rw [h1, h2]
      have := hle l (fun a ha => h a (by simp [ha]))
      simp
      omega
    · have := filter_lt P Q x l (fun a ha => h a (by simp [ha])) hx h1 h2
      have hy := h y (by simp)
      cases hp : P y <;> cases hq : Q y <;> simp [hp, hq] at * <;> omega
theorem rankG_lt {N : Nat} {es : List (Int × Int)} {p d : Nat} (h : d ∈ (condG N es).getD p []) : rankG N es d < rankG N es p := by
  obtain ⟨n, j, hn, hj, hp, hd, hne⟩ := condG_mem.1 h
  have hjN : j < N := by have := sucs_lt (N := N) (es := es) n j hj; rwa [sucs_length] at this
  refine filter_lt _ _ n _ (fun k hk hq => ?_) (List.mem_range.2 hn) ?_ ?_
  · obtain ⟨m, hm, hmd, hr⟩ := @of_decide_eq_true _ (_) hq
    refine @decide_eq_true _ (_) ⟨n, hn, hp, .step hj ((((clG_eq hjN hm).1 (hd.trans hmd.symm)).1).trans hr)⟩
  · refine @decide_eq_false _ (_) ?_
    rintro ⟨m, hm, hmd, hr⟩
    have h1 := ((clG_eq hm hjN).1 (hmd.trans hd.symm))
    have h2 : Rch (sucs N es) n m := .step hj h1.2
    exact hne (hp.symm.trans (((clG_eq hn hm).2 ⟨h2, hr⟩).trans hmd))
  · exact @decide_eq_true _ (_) ⟨n, hn, hp, .refl n⟩
end Go.Proofs.Ytlcgbkeggmaljaa

namespace Go.Proofs.Ytlcgbkeggmaljaa
set_option linter.unusedVariables false
set_option linter.unusedSimpArgs false

/-- what holds of the list behind k nodes. -/
structure OInv (S : List (List Nat)) (k : Nat) (st : List Bool × List Nat) : Prop where
  len : st.1.length = S.length
  cnt : st.2.length = k
  nod : st.2.Nodup
  mem : ∀ j, j < S.length → (bD st.1 j = true ↔ j ∈ st.2)
  lt : ∀ x ∈ st.2, x < S.length
  top : ∀ i x, st.2[i]? = some x → ∀ j ∈ S.getD x [], j ∈ st.2.take i
  least : ∀ i x, st.2[i]? = some x → ∀ y, y < x → y ∉ st.2.take i → ∃ j ∈ S.getD y [], j ∉ st.2.take i
theorem lrdy_iff {S : List (List Nat)} {done : List Bool} {k : Nat} : lrdy S done k = true ↔ bD done k = false ∧ ∀ j ∈ S.getD k [], bD done j = true := by
  unfold lrdy
  rw [Bool.and_eq_true, Bool.not_eq_true', Bool.not_eq_true', List.any_eq_false]
  refine and_congr_right fun _ => forall_congr' fun j => imp_congr_right fun _ => ?_
  cases bD done j <;> simp
theorem rdy_ex {S : List (List Nat)} (hS : ∀ a, ∀ j ∈ S.getD a [], j < S.length) {r : Nat → Nat} (hr : ∀ a, ∀ j ∈ S.getD a [], r j < r a) (done : List Bool) : ∀ (m a : Nat), r a ≤ m → a < S.length → bD done a = false → ∃ b, b < S.length ∧ lrdy S done b = true
  | 0, a, hm, ha, hd => by
    refine ⟨a, ha, lrdy_iff.2 ⟨hd, fun j hj => ?_⟩⟩
    have := hr a j hj
    omega
  | m + 1, a, hm, ha, hd => by
    by_cases h : ∀ j ∈ S.getD a [], bD done j = true
    · exact ⟨a, ha, lrdy_iff.2 ⟨hd, h⟩⟩
    · obtain ⟨j, hj⟩ := Classical.not_forall.1 h
      obtain ⟨hj, hn⟩ := Classical.not_imp.1 hj
      exact rdy_ex hS hr done m j (by have := hr a j hj; omega) (hS a j hj) (by simpa using hn)
theorem lpick_spec {S : List (List Nat)} {done : List Bool} (h : ∃ b, b < S.length ∧ lrdy S done b = true) : lpick S done < S.length ∧ lrdy S done (lpick S done) = true ∧ ∀ y, y < lpick S done → lrdy S done y = false := by
  unfold lpick
  cases e : (List.range S.length).find? (lrdy S done) with
  | none =>
    obtain ⟨b, hb, hr⟩ := h
    exact absurd hr (List.find?_eq_none.1 e b (List.mem_range.2 hb))
  | some x =>
    refine ⟨List.mem_range.1 (List.mem_of_find?_eq_some e), List.find?_some e, fun y hy => ?_⟩
    have hy : y < x := hy
    obtain ⟨_, us, bs, hab, hno⟩ := List.find?_eq_some_iff_append.1 e
    have hlen : x = us.length := by
      have h1 : (List.range S.length)[us.length]? = some x := by rw [hab, List.getElem?_append_right (Nat.le_refl _)]; simp
      have h2 := List.getElem?_eq_some_iff.1 h1
      obtain ⟨_, h2⟩ := h2
      rw [List.getElem_range] at h2
      exact h2.symm
    have hya : y ∈ us := by
      have h1 : us[y]? = some y := by
        have h3 : (List.range S.length)[y]? = some y := by
          have := List.mem_range.1 (List.mem_of_find?_eq_some e)
          rw [List.getElem?_range (by omega)]
        rw [hab, List.getElem?_append_left (by omega)] at h3
        exact h3
      exact List.mem_of_getElem? h1
    have := hno y hya
    simpa using this
theorem OInv.step {S : List (List Nat)} (hS : ∀ a, ∀ j ∈ S.getD a [], j < S.length) {r : Nat → Nat} (hr : ∀ a, ∀ j ∈ S.getD a [], r j < r a) {k : Nat} {st : List Bool × List Nat} (h : OInv S k st) (hk : k < S.length) : OInv S (k + 1) (lstep S st) := by
  have hex : ∃ a, a < S.length ∧ bD st.1 a = false := Classical.byContradiction fun hn => by
    have hall : ∀ a, a < S.length → a ∈ st.2 := fun a ha => (h.mem a ha).1 (by
      cases e : bD st.1 a with
      | true => rfl
      | false => exact absurd ⟨a, ha, e⟩ hn)
    have hp : st.2.Perm (List.range S.length) := (List.perm_ext_iff_of_nodup h.nod List.nodup_range).2 fun x => by
      rw [List.mem_range]
      exact ⟨h.lt x, hall x⟩
    have := hp.length_eq
    rw [h.cnt, List.length_range] at this
    omega
  obtain ⟨a, ha, hd⟩ := hex
  obtain ⟨h1, h2, h3⟩ := lpick_spec (rdy_ex hS hr st.1 (r a) a (Nat.le_refl _) ha hd)
  unfold lstep
  generalize lpick S st.1 = x at *
  obtain ⟨hx, hxs⟩ := lrdy_iff.1 h2
  have hxn : x ∉ st.2 := fun hm => by have := (h.mem x h1).2 hm; rw [hx] at this; cases this
  refine ⟨by show (List.set _ _ _).length = _; rw [List.length_set]; exact h.len, by show (st.2 ++ [x]).length = _; rw [List.length_append, h.cnt]; rfl, ?_, fun j hj => ?_, fun y hy => ?_, fun i y hi j hj => ?_, fun i y hi z hz hzn => ?_⟩
  · exact List.nodup_append.2 ⟨h.nod, by simp, fun a ha b hb e => by rw [List.mem_singleton] at hb; subst hb; subst e; exact hxn ha⟩
  · show bD (st.1.set x true) j = true ↔ j ∈ st.2 ++ [x]
    rw [List.mem_append, List.mem_singleton]
    by_cases e : j = x
    · subst e
      unfold bD
      rw [List.getD_eq_getElem?_getD, List.getElem?_set_self (by rw [h.len]; exact hj)]
      simp
    · unfold bD
      rw [List.getD_eq_getElem?_getD, List.getElem?_set_ne (Ne.symm e), ← List.getD_eq_getElem?_getD]
      exact (h.mem j hj).trans ⟨.inl, fun hh => hh.resolve_right e⟩
  · rcases List.mem_append.1 hy with hy | hy
    · exact h.lt y hy
    · rw [List.mem_singleton] at hy; subst hy; exact h1
  · show j ∈ (st.2 ++ [x]).take i
    have hi : (st.2 ++ [x])[i]? = some y := hi
    by_cases hik : i < st.2.length
    · rw [List.getElem?_append_left hik] at hi
      rw [List.take_append_of_le_length (by omega)]
      exact h.top i y hi j hj
    · have hil := (List.getElem?_eq_some_iff.1 hi).1
      rw [List.length_append, List.length_singleton] at hil
      have ei : i = st.2.length := by omega
      subst ei
      rw [List.getElem?_append_right (Nat.le_refl _)] at hi
      simp at hi
      subst hi
      rw [List.take_left]
      exact (h.mem j (hS _ j hj)).1 (hxs j hj)
  · have hi : (st.2 ++ [x])[i]? = some y := hi
    show ∃ j ∈ S.getD z [], j ∉ (st.2 ++ [x]).take i
    have hzn : z ∉ (st.2 ++ [x]).take i := hzn
    by_cases hik : i < st.2.length
    · rw [List.getElem?_append_left hik] at hi
      rw [List.take_append_of_le_length (by omega)] at hzn ⊢
      exact h.least i y hi z hz hzn
    · have hil := (List.getElem?_eq_some_iff.1 hi).1
      rw [List.length_append, List.length_singleton] at hil
      have ei : i = st.2.length := by omega
      subst ei
      rw [List.getElem?_append_right (Nat.le_refl _)] at hi
      simp at hi
      subst hi
      rw [List.take_left] at hzn ⊢
      have hzr := h3 z hz
      have hzd : bD st.1 z = false := by
        cases e : bD st.1 z with
        | false => rfl
        | true => exact absurd ((h.mem z (by omega)).1 e) hzn
      refine Classical.byContradiction fun hno => ?_
      have : lrdy S st.1 z = true := lrdy_iff.2 ⟨hzd, fun j hj => (h.mem j (hS z j hj)).2 (Classical.byContradiction fun hn => hno ⟨j, hj, hn⟩)⟩
      rw [hzr] at this
      cases this
theorem lrun_oinv {S : List (List Nat)} (hS : ∀ a, ∀ j ∈ S.getD a [], j < S.length) {r : Nat → Nat} (hr : ∀ a, ∀ j ∈ S.getD a [], r j < r a) : ∀ k, k ≤ S.length → OInv S k (lrun S k)
  | 0, _ => by
    refine ⟨by simp [lrun], rfl, by simp [lrun], fun j hj => ?_, fun x hx => by simp [lrun] at hx, fun i x hi => by simp [lrun] at hi, fun i x hi => by simp [lrun] at hi⟩
    show (List.replicate S.length false).getD j false = true ↔ j ∈ []
    rw [List.getD_eq_getElem?_getD, List.getElem?_replicate, if_pos hj]
    simp
  | k + 1, h => (lrun_oinv hS hr k (by omega)).step hS hr (by omega)
/-- the list. -/
theorem listF_ok {S : List (List Nat)} (hS : ∀ a, ∀ j ∈ S.getD a [], j < S.length) {r : Nat → Nat} (hr : ∀ a, ∀ j ∈ S.getD a [], r j < r a) : OInv S S.length (lrun S S.length) := lrun_oinv hS hr _ (Nat.le_refl _)
theorem listF_mem {S : List (List Nat)} (hS : ∀ a, ∀ j ∈ S.getD a [], j < S.length) {r : Nat → Nat} (hr : ∀ a, ∀ j ∈ S.getD a [], r j < r a) (x : Nat) : x ∈ listF S ↔ x < S.length := by
  have h := listF_ok hS hr
  refine ⟨h.lt x, fun hx => Classical.byContradiction fun hn => ?_⟩
  have hp : ((lrun S S.length).2 ++ [x]).Nodup := List.nodup_append.2 ⟨h.nod, by simp, fun a ha b hb e => by rw [List.mem_singleton] at hb; subst hb; subst e; exact hn ha⟩
  have hq : ((lrun S S.length).2 ++ [x]).Perm ((List.range S.length).filter fun k => decide (k ∈ (lrun S S.length).2 ++ [x])) := (List.perm_ext_iff_of_nodup hp (List.nodup_range.filter _)).2 fun k => by
    rw [List.mem_filter, List.mem_range, decide_eq_true_eq]
    refine ⟨fun hk => ⟨?_, hk⟩, fun hk => hk.2⟩
    rcases List.mem_append.1 hk with hk | hk
    · exact h.lt k hk
    · rw [List.mem_singleton] at hk; omega
  have h1 := hq.length_eq
  have h2 := List.length_filter_le (fun k => decide (k ∈ (lrun S S.length).2 ++ [x])) (List.range S.length)
  rw [List.length_append, h.cnt, List.length_singleton] at h1
  rw [List.length_range] at h2
  omega
end Go.Proofs.Ytlcgbkeggmaljaa

namespace Go.Proofs.Ytlcgbkeggmaljaa
set_option linter.unusedVariables false
set_option linter.unusedSimpArgs false

theorem lvsteps_get {c : Nat} : ∀ (l : List Nat) (lv : List Int), c < lv.length → (∀ d ∈ l, d ≠ c) →
    (∀ a, a ≠ c → gD (l.foldl (lvstep c) lv) a = gD lv a) ∧ gD lv c ≤ gD (l.foldl (lvstep c) lv) c ∧ (∀ d ∈ l, gD lv d + 1 ≤ gD (l.foldl (lvstep c) lv) c) ∧ (gD (l.foldl (lvstep c) lv) c = gD lv c ∨ ∃ d ∈ l, gD (l.foldl (lvstep c) lv) c = gD lv d + 1) ∧ (l.foldl (lvstep c) lv).length = lv.length
  | [], lv, _, _ => ⟨fun _ _ => rfl, Int.le_refl _, fun d hd => by simp at hd, .inl rfl, rfl⟩
  | d :: l, lv, hc, hl => by
    have hdc := hl d (by simp)
    have e1 : gD (lvstep c lv d) c = max (gD lv c) (gD lv d + 1) := by unfold lvstep; rw [gD_set _ _ _ _ hc, if_pos rfl]
    have e2 : ∀ a, a ≠ c → gD (lvstep c lv d) a = gD lv a := fun a ha => by unfold lvstep; rw [gD_set _ _ _ _ hc, if_neg ha]
    obtain ⟨h1, h2, h3, h4, h5⟩ := lvsteps_get l (lvstep c lv d) (by unfold lvstep; rw [List.length_set]; exact hc) (fun j hj => hl j (by simp [hj]))
    rw [List.foldl_cons]
    refine ⟨fun a ha => (h1 a ha).trans (e2 a ha), by omega, fun j hj => ?_, ?_, by rw [h5]; unfold lvstep; rw [List.length_set]⟩
    · rcases List.mem_cons.1 hj with rfl | hj
      · omega
      · have := h3 j hj
        rw [e2 j (hl j (by simp [hj]))] at this
        exact this
    · rcases h4 with h4 | ⟨j, hj, h4⟩
      · rw [e1] at h4
        by_cases hm : gD lv d + 1 ≤ gD lv c
        · exact .inl (by omega)
        · exact .inr ⟨d, by simp, by omega⟩
      · rw [e2 j (hl j (by simp [hj]))] at h4
        exact .inr ⟨j, by simp [hj], h4⟩
theorem lvput_mem (nd out : List (List Nat)) (m c i n : Nat) : n ∈ (lvput nd out m c).getD i [] ↔ n ∈ out.getD i [] ∨ (i = m ∧ n ∈ nd.getD c []) := by
  unfold lvput
  rw [getD_set_row, lvpad_row, lvpad_row, lvpad_len]
  by_cases e : i = m
  · subst e
    rw [if_pos ⟨rfl, by omega⟩, List.mem_append]
    exact or_congr_right ⟨fun h => ⟨rfl, h⟩, fun h => h.2⟩
  · rw [if_neg (fun h => e h.1)]
    exact ⟨.inl, fun h => h.resolve_right fun h => e h.1⟩
/-- what holds of the levels behind some components. -/
structure VInv (K nd : List (List Nat)) (P : List Nat) (st : List Int × List (List Nat)) : Prop where
  len : st.1.length = nd.length
  nn : ∀ c, c < nd.length → 0 ≤ gD st.1 c
  zr : ∀ c, c < nd.length → c ∉ P → gD st.1 c = 0
  ge : ∀ c ∈ P, ∀ d ∈ K.getD c [], gD st.1 d + 1 ≤ gD st.1 c
  at_ : ∀ c ∈ P, gD st.1 c = 0 ∨ ∃ d ∈ K.getD c [], gD st.1 c = gD st.1 d + 1
  mem : ∀ m n, n ∈ st.2.getD m [] ↔ ∃ c ∈ P, n ∈ nd.getD c [] ∧ gD st.1 c = (m : Int)
  nod : ∀ m, (st.2.getD m []).Nodup
  lt : ∀ c ∈ P, gD st.1 c < (st.2.length : Int)
  ln : st.2.length = 0 ∨ ∃ c ∈ P, gD st.1 c + 1 = (st.2.length : Int)
theorem VInv.step {K nd : List (List Nat)} {P : List Nat} {st : List Int × List (List Nat)} (h : VInv K nd P st) {c : Nat} (hc : c < nd.length) (hcP : c ∉ P) (hK : ∀ d ∈ K.getD c [], d ∈ P) (hKc : ∀ a ∈ P, ∀ d ∈ K.getD a [], d ∈ P) (hP : ∀ a ∈ P, a < nd.length)
    (hnd : (nd.getD c []).Nodup) (hdis : ∀ a, a ≠ c → ∀ n ∈ nd.getD a [], n ∉ nd.getD c []) : VInv K nd (P ++ [c]) (lvadd K nd st c) := by
  have hne : ∀ d ∈ P, d ≠ c := fun d hd e => hcP (e ▸ hd)
  obtain ⟨h1, h2, h3, h4, h5⟩ := lvsteps_get (K.getD c []) st.1 (by rw [h.len]; exact hc) (fun d hd => hne d (hK d hd))
  unfold lvadd
  generalize (K.getD c []).foldl (lvstep c) st.1 = lv at *
  have hcn : 0 ≤ gD lv c := by have := h.nn c hc; omega
  have hz := h.zr c hc hcP
  obtain ⟨m0, hm0⟩ : ∃ m0 : Nat, gD lv c = (m0 : Int) := ⟨(gD lv c).toNat, by omega⟩
  rw [hm0, Int.toNat_natCast]
  have hln : (lvput nd st.2 m0 c).length = max st.2.length (m0 + 1) := by unfold lvput; rw [List.length_set, lvpad_len]
  have hmm : ∀ a, a ∈ P ++ [c] ↔ a ∈ P ∨ a = c := fun a => by simp
  refine ⟨h5.trans h.len, fun a ha => ?_, fun a ha hn => ?_, fun a ha d hd => ?_, fun a ha => ?_, fun m n => ?_, fun m => ?_, fun a ha => ?_, ?_⟩
  · show 0 ≤ gD lv a
    by_cases e : a = c
    · subst e; exact hcn
    · rw [h1 a e]; exact h.nn a ha
  · show gD lv a = 0
    have : a ≠ c := fun e => hn ((hmm a).2 (.inr e))
    rw [h1 a this]
    exact h.zr a ha (fun hm => hn ((hmm a).2 (.inl hm)))
  · show gD lv d + 1 ≤ gD lv a
    rcases (hmm a).1 ha with ha | rfl
    · rw [h1 a (hne a ha), h1 d (hne d (hKc a ha d hd))]
      exact h.ge a ha d hd
    · rw [h1 d (hne d (hK d hd))]
      exact h3 d hd
  · show gD lv a = 0 ∨ ∃ d ∈ K.getD a [], gD lv a = gD lv d + 1
    rcases (hmm a).1 ha with ha | rfl
    · rw [h1 a (hne a ha)]
      rcases h.at_ a ha with h0 | ⟨d, hd, h0⟩
      · exact .inl h0
      · exact .inr ⟨d, hd, by rw [h1 d (hne d (hKc a ha d hd))]; exact h0⟩
    · rcases h4 with h4 | ⟨d, hd, h4⟩
      · exact .inl (h4.trans hz)
      · exact .inr ⟨d, hd, by rw [h1 d (hne d (hK d hd))]; exact h4⟩
  · show n ∈ (lvput nd st.2 m0 c).getD m [] ↔ ∃ a ∈ P ++ [c], n ∈ nd.getD a [] ∧ gD lv a = (m : Int)
    rw [lvput_mem, h.mem]
    constructor
    · rintro (⟨a, ha, hn, hm⟩ | ⟨rfl, hn⟩)
      · exact ⟨a, (hmm a).2 (.inl ha), hn, by rw [h1 a (hne a ha)]; exact hm⟩
      · exact ⟨c, (hmm c).2 (.inr rfl), hn, hm0⟩
    · rintro ⟨a, ha, hn, hm⟩
      rcases (hmm a).1 ha with ha | rfl
      · rw [h1 a (hne a ha)] at hm
        exact .inl ⟨a, ha, hn, hm⟩
      · exact .inr ⟨by omega, hn⟩
  · show ((lvput nd st.2 m0 c).getD m []).Nodup
    unfold lvput
    rw [getD_set_row, lvpad_row, lvpad_row]
    split
    · refine List.nodup_append.2 ⟨h.nod m0, hnd, fun a ha b hb e => ?_⟩
      subst e
      obtain ⟨c', hc', hn, _⟩ := (h.mem m0 a).1 ha
      exact hdis c' (hne c' hc') a hn hb
    · exact h.nod m
  · show gD lv a < ((lvput nd st.2 m0 c).length : Int)
    rw [hln]
    rcases (hmm a).1 ha with ha | rfl
    · rw [h1 a (hne a ha)]
      have := h.lt a ha
      omega
    · omega
  · show (lvput nd st.2 m0 c).length = 0 ∨ ∃ a ∈ P ++ [c], gD lv a + 1 = ((lvput nd st.2 m0 c).length : Int)
    rw [hln]
    by_cases e : m0 + 1 ≤ st.2.length
    · rcases h.ln with h0 | ⟨a, ha, h0⟩
      · omega
      · exact .inr ⟨a, (hmm a).2 (.inl ha), by rw [h1 a (hne a ha)]; omega⟩
    · exact .inr ⟨c, (hmm c).2 (.inr rfl), by omega⟩
theorem condG_ok (N : Nat) (es : List (Int × Int)) : (∀ a, ∀ j ∈ (condG N es).getD a [], j < (condG N es).length) ∧ (∀ a, ∀ j ∈ (condG N es).getD a [], rankG N es j < rankG N es a) := by
  refine ⟨fun a j hj => ?_, fun a j hj => rankG_lt hj⟩
  rw [(condG_len N es).1]
  obtain ⟨n, k, hn, hk, _, hd, _⟩ := condG_mem.1 hj
  rw [← hd]
  exact clG_lt (by have := sucs_lt (N := N) (es := es) n k hk; rwa [sucs_length] at this)
theorem listG_ok (N : Nat) (es : List (Int × Int)) : OInv (condG N es) (condG N es).length (lrun (condG N es) (condG N es).length) := listF_ok (condG_ok N es).1 (condG_ok N es).2
theorem listG_mem {N : Nat} {es : List (Int × Int)} (x : Nat) : x ∈ listF (condG N es) ↔ x < (nodesG N es).length := by
  rw [listF_mem (condG_ok N es).1 (condG_ok N es).2, (condG_len N es).1]
theorem lvrun_vinv (N : Nat) (es : List (Int × Int)) : ∀ k, k ≤ (listF (condG N es)).length → VInv (condG N es) (nodesG N es) ((listF (condG N es)).take k) (lvrun (condG N es) (nodesG N es) ((listF (condG N es)).take k))
  | 0, _ => by
    have hg : ∀ a, a < (nodesG N es).length → gD (List.replicate (nodesG N es).length (0 : Int)) a = 0 := fun a ha => by
      unfold gD
      rw [List.getD_eq_getElem?_getD, List.getElem?_replicate, if_pos ha]
      rfl
    refine ⟨by simp [lvrun], fun c hc => ?_, fun c hc _ => ?_, fun c hc => by simp at hc, fun c hc => by simp at hc, fun m n => by simp [lvrun], fun m => by simp [lvrun], fun c hc => by simp at hc, .inl (by simp [lvrun])⟩
    · show 0 ≤ gD (List.replicate (nodesG N es).length (0 : Int)) c
      rw [hg c hc]; exact Int.le_refl _
    · exact hg c hc
  | k + 1, hk => by
    have ih := lvrun_vinv N es k (by omega)
    have ho := listG_ok N es
    have hk' : k < (listF (condG N es)).length := by omega
    have e : lvrun (condG N es) (nodesG N es) ((listF (condG N es)).take (k + 1)) = lvadd (condG N es) (nodesG N es) (lvrun (condG N es) (nodesG N es) ((listF (condG N es)).take k)) (listF (condG N es))[k] := by
      unfold lvrun
      rw [List.take_succ_eq_append_getElem hk', List.foldl_append]
      rfl
    have hget : (listF (condG N es))[k]? = some (listF (condG N es))[k] := by simp [hk']
    have hn := ho.nod
    have hsplit := List.take_append_drop (k + 1) (listF (condG N es))
    rw [e, List.take_succ_eq_append_getElem hk']
    refine ih.step ((listG_mem _).1 (List.getElem_mem _)) (fun hm => ?_) (fun d hd => ho.top k _ hget d hd) (fun a ha d hd => ?_) (fun a ha => (listG_mem a).1 (List.mem_of_mem_take ha)) ((nodesG_srt N es _).imp fun h => Nat.ne_of_lt h) (fun a ha n hn1 hn2 => ?_)
    · have h2 : ((listF (condG N es)).take (k + 1)).Nodup := List.Nodup.sublist (List.take_sublist _ _) hn
      rw [List.take_succ_eq_append_getElem hk'] at h2
      exact (List.nodup_append.1 h2).2.2 _ hm _ (by simp) rfl
    · obtain ⟨i, hi⟩ := List.mem_iff_getElem?.1 ha
      have hik : i < k := by
        have := (List.getElem?_eq_some_iff.1 hi).1
        rw [List.length_take] at this
        omega
      rw [List.getElem?_take, if_pos hik] at hi
      have := ho.top i a hi d hd
      have h9 : d ∈ ((listF (condG N es)).take k).take i := by rw [List.take_take, Nat.min_eq_left (by omega)]; exact this
      exact List.mem_of_mem_take h9
    · exact ha ((nodesG_mem.1 hn1).2.symm.trans (nodesG_mem.1 hn2).2)
/-- what the levels are. -/
structure LevP (N : Nat) (es : List (Int × Int)) (lv : Nat → Nat) : Prop where
  down : ∀ c d, d ∈ (condG N es).getD c [] → lv d < lv c
  attain : ∀ c, c < (nodesG N es).length → lv c = 0 ∨ ∃ d ∈ (condG N es).getD c [], lv c = lv d + 1
  mem : ∀ m n, n ∈ (levelsG N es).getD m [] ↔ n < N ∧ lv (clG N es n) = m
  srt : ∀ m, ((levelsG N es).getD m []).Pairwise (· < ·)
  lt : ∀ c, c < (nodesG N es).length → lv c < (levelsG N es).length
  ln : (levelsG N es).length = 0 ∨ ∃ c, c < (nodesG N es).length ∧ lv c + 1 = (levelsG N es).length
theorem sortN_mem (r : List Nat) (n : Nat) : n ∈ sortN r ↔ n ∈ r := by
  have hp := List.mergeSort_perm (r.map fun n : Nat => (n : Int)) fun x y => decide (x ≤ y)
  unfold sortN
  rw [List.mem_map]
  constructor
  · rintro ⟨x, hx, rfl⟩
    obtain ⟨y, hy, rfl⟩ := List.mem_map.1 (hp.subset hx)
    exact hy
  · intro h
    exact ⟨(n : Int), hp.symm.subset (List.mem_map.2 ⟨n, h, rfl⟩), by simp⟩
theorem sortN_srt {r : List Nat} (h : r.Nodup) : (sortN r).Pairwise (· < ·) := by
  have hp := List.mergeSort_perm (r.map fun n : Nat => (n : Int)) fun x y => decide (x ≤ y)
  have hs := List.pairwise_mergeSort (le := fun x y : Int => decide (x ≤ y)) (fun a b c hab hbc => by simp at *; omega) (fun a b => by simp; omega) (r.map fun n : Nat => (n : Int))
  have hn : ((r.map fun n : Nat => (n : Int)).mergeSort fun x y => decide (x ≤ y)).Nodup := hp.symm.nodup (List.Pairwise.map _ (fun a b hab e => hab (Int.ofNat.inj e)) h)
  unfold sortN
  refine List.pairwise_map.2 ?_
  have hb : ∀ x ∈ (r.map fun n : Nat => (n : Int)).mergeSort fun x y => decide (x ≤ y), 0 ≤ x := fun x hx => by
    obtain ⟨y, _, rfl⟩ := List.mem_map.1 (hp.subset hx)
    omega
  refine (hs.and hn).imp_of_mem fun {x y} hx hy h => ?_
  have h1 := of_decide_eq_true h.1
  have h2 := h.2
  have := hb x hx
  have := hb y hy
  omega
theorem levels_ok (N : Nat) (es : List (Int × Int)) : ∃ lv, LevP N es lv := by
  have h := lvrun_vinv N es (listF (condG N es)).length (Nat.le_refl _)
  rw [List.take_length] at h
  have hK : ∀ c d, d ∈ (condG N es).getD c [] → c < (nodesG N es).length ∧ d < (nodesG N es).length := fun c d hd => by
    refine ⟨?_, by have := (condG_ok N es).1 c d hd; rwa [(condG_len N es).1] at this⟩
    obtain ⟨n, k, hn, hk, hp, _, _⟩ := condG_mem.1 hd
    rw [← hp]
    exact clG_lt hn
  have hrow : ∀ m, (levelsG N es).getD m [] = sortN ((lvrun (condG N es) (nodesG N es) (listF (condG N es))).2.getD m []) := fun m => by
    unfold levelsG
    rw [List.getD_eq_getElem?_getD, List.getD_eq_getElem?_getD, List.getElem?_map]
    cases (lvrun (condG N es) (nodesG N es) (listF (condG N es))).2[m]? with
    | none => simp [sortN]
    | some r => rfl
  have hlen : (levelsG N es).length = (lvrun (condG N es) (nodesG N es) (listF (condG N es))).2.length := by unfold levelsG; rw [List.length_map]
  have hin : ∀ c, c < (nodesG N es).length → ((gD (lvrun (condG N es) (nodesG N es) (listF (condG N es))).1 c).toNat : Int) = gD (lvrun (condG N es) (nodesG N es) (listF (condG N es))).1 c := fun c hc => by have := h.nn c hc; omega
  refine ⟨fun c => (gD (lvrun (condG N es) (nodesG N es) (listF (condG N es))).1 c).toNat, fun c d hd => ?_, fun c hc => ?_, fun m n => ?_, fun m => ?_, fun c hc => ?_, ?_⟩
  · obtain ⟨h1, h2⟩ := hK c d hd
    have h3 := h.ge c ((listG_mem c).2 h1) d hd
    have := hin c h1
    have := hin d h2
    omega
  · rcases h.at_ c ((listG_mem c).2 hc) with h0 | ⟨d, hd, h0⟩
    · exact .inl (by show Int.toNat _ = 0; omega)
    · obtain ⟨h1, h2⟩ := hK c d hd
      refine .inr ⟨d, hd, ?_⟩
      have := hin c h1
      have := hin d h2
      show Int.toNat _ = Int.toNat _ + 1
      omega
  · rw [hrow, sortN_mem, h.mem]
    constructor
    · rintro ⟨c, hc, hn, hm⟩
      obtain ⟨h1, h2⟩ := nodesG_mem.1 hn
      refine ⟨h1, ?_⟩
      show Int.toNat _ = m
      rw [h2]
      omega
    · rintro ⟨hn, hm⟩
      refine ⟨clG N es n, (listG_mem _).2 (clG_lt hn), nodesG_mem.2 ⟨hn, rfl⟩, ?_⟩
      have := hin _ (clG_lt (es := es) hn)
      have hm : Int.toNat _ = m := hm
      omega
  · rw [hrow]
    exact sortN_srt (h.nod m)
  · have := h.lt c ((listG_mem c).2 hc)
    have := hin c hc
    show Int.toNat _ < _
    omega
  · rw [hlen]
    rcases h.ln with h0 | ⟨c, hc, h0⟩
    · exact .inl h0
    · have hc := (listG_mem c).1 hc
      have := hin c hc
      exact .inr ⟨c, hc, by show Int.toNat _ + 1 = _; omega⟩
/-- a way goes down, or stays in a component. -/
theorem rch_lev {N : Nat} {es : List (Int × Int)} {lv : Nat → Nat} (h : LevP N es lv) {a b : Nat} (hr : Rch (sucs N es) a b) : a < N → b < N ∧ (clG N es a = clG N es b ∨ lv (clG N es b) < lv (clG N es a)) := by
  induction hr with
  | refl a => exact fun ha => ⟨ha, .inl rfl⟩
  | @step a j b hj _ ih =>
    intro ha
    have hjN : j < N := by have := sucs_lt (N := N) (es := es) a j hj; rwa [sucs_length] at this
    obtain ⟨hb, hlev⟩ := ih hjN
    refine ⟨hb, ?_⟩
    by_cases e : clG N es a = clG N es j
    · rw [e]; exact hlev
    · have h1 := h.down (clG N es a) (clG N es j) (condG_mem.2 ⟨a, j, ha, hj, rfl, rfl, e⟩)
      rcases hlev with e2 | h2
      · rw [← e2]; exact .inr h1
      · exact .inr (by omega)
end Go.Proofs.Ytlcgbkeggmaljaa
