/- Graphs, plain: a shortest way is one, and no edge makes it shorter. -/
import Derived.Test.YtlcgbkeggmaljaaGPlainCyc
import Derived.Test.YtlcgbkeggmaljaaGPlainReach
import Derived.Test.YtlcgbkeggmaljaaGReach
namespace Go.Proofs.Ytlcgbkeggmaljaa
set_option linter.unusedVariables false
set_option linter.unusedSimpArgs false

/-- a way of so many steps. -/
inductive Walk (S : List (List Nat)) : Nat → Nat → Nat → Prop
  | nil (a : Nat) : Walk S a a 0
  | cons {a b c m : Nat} : b ∈ S.getD a [] → Walk S b c m → Walk S a c (m + 1)
theorem Walk.snoc {S : List (List Nat)} {a b c m : Nat} (h : Walk S a b m) (hc : c ∈ S.getD b []) : Walk S a c (m + 1) := by
  induction h with
  | nil a => exact .cons hc (.nil c)
  | cons hb _ ih => exact .cons hb (ih hc)
theorem Walk.append {S : List (List Nat)} {a b c m n : Nat} (h : Walk S a b m) (k : Walk S b c n) : Walk S a c (m + n) := by
  induction h with
  | nil a => rw [Nat.zero_add]; exact k
  | @cons a b' c' m hb _ ih => rw [show m + 1 + n = (m + n) + 1 by omega]; exact .cons hb (ih k)
theorem Walk.rch {S : List (List Nat)} {a b m : Nat} (h : Walk S a b m) : Rch S a b := by
  induction h with
  | nil a => exact .refl a
  | cons hb _ ih => exact .step hb ih
theorem Rch.walk {S : List (List Nat)} {a b : Nat} (h : Rch S a b) : ∃ m, Walk S a b m := by
  induction h with
  | refl a => exact ⟨0, .nil a⟩
  | step hb _ ih => obtain ⟨m, hm⟩ := ih; exact ⟨m + 1, .cons hb hm⟩
/-- a distance is a way's length. -/
theorem dist_walk {N : Nat} {es : List (Int × Int)} {to : Nat} {d : List Int} (h : DistR (sucs N (es.map swapE)) 0 to d) : ∀ (m a : Nat), gD d a = (m : Int) → Walk (sucs N es) a to m
  | 0, a, ha => by
    have := h.zero a (by simpa using ha)
    subst this
    exact .nil _
  | m + 1, a, ha => by
    obtain ⟨k, hk, hm⟩ := h.desc a m (by rw [ha]; simp)
    exact .cons hk (dist_walk h m k hm)
/-- no way is shorter. -/
theorem walk_dist {N : Nat} {es : List (Int × Int)} {to a m : Nat} {d : List Int} (h : DistR (sucs N (es.map swapE)) 0 to d) (hw : Walk (sucs N es) a to m) : 0 ≤ gD d a ∧ gD d a ≤ m := by
  induction hw with
  | nil a => rw [h.t0]; simp
  | @cons a b c m hb _ ih =>
    obtain ⟨h1, h2⟩ := ih h
    obtain ⟨m1, m2, m3⟩ := mem_sucs.1 hb
    obtain ⟨h3, h4⟩ := h.near b h1 a (by unfold ofP; exact List.mem_filter.2 ⟨mem_sucs.2 ⟨m2, m1, mem_swap.2 m3⟩, by simp⟩)
    refine ⟨h3, ?_⟩
    have : ((m + 1 : Nat) : Int) = (m : Int) + 1 := by simp
    omega
/-- a list of nodes that is a way. -/
def IsWay (S : List (List Nat)) (l : List Nat) (a b : Nat) : Prop := l.head? = some a ∧ l.getLast? = some b ∧ ∀ i x y, l[i]? = some x → l[i + 1]? = some y → y ∈ S.getD x []
theorem descP_way {N : Nat} {es : List (Int × Int)} {to : Nat} {d : List Int} (h : DistR (sucs N (es.map swapE)) 0 to d) : ∀ (m n : Nat), gD d n = (m : Int) → IsWay (sucs N es) (descP (sucs N es) d m n) n to ∧ (descP (sucs N es) d m n).length = m + 1
  | 0, n, hn => by
    have := h.zero n (by simpa using hn)
    subst this
    exact ⟨⟨rfl, rfl, fun i x y hx hy => by simp [descP] at hy⟩, rfl⟩
  | m + 1, n, hn => by
    obtain ⟨k0, hk0, hm0⟩ := h.desc n m (by rw [hn]; simp)
    unfold descP
    cases e : ((sucs N es).getD n []).find? (fun k => gD d k == (m : Int)) with
    | none =>
      have := List.find?_eq_none.1 e k0 hk0
      exact absurd (by simpa using hm0) this
    | some k =>
      have hk1 := List.mem_of_find?_eq_some e
      have hk2 : gD d k = (m : Int) := by simpa using List.find?_some e
      obtain ⟨⟨i1, i2, i3⟩, i4⟩ := descP_way h m k hk2
      simp only
      refine ⟨⟨rfl, ?_, fun i x y hx hy => ?_⟩, by rw [List.length_cons, i4]⟩
      · rw [List.getLast?_cons, i2]
        rfl
      · cases i with
        | zero =>
          simp at hx hy
          subst hx
          rw [← List.head?_eq_getElem?, i1] at hy
          cases hy
          exact hk1
        | succ i => exact i3 i x y (by simpa using hx) (by simpa using hy)
theorem swap_dist (N : Nat) (es : List (Int × Int)) (b : Nat) (hb : b < N) : DistR (sucs N (es.map swapE)) 0 b (bfsD (sucs N (es.map swapE)) 0 b) := bfsD_dist sucs_lt (by rw [sucs_length]; exact hb)
theorem pathF_nil {N : Nat} {es : List (Int × Int)} {a b : Nat} (hb : b < N) : pathF N es a b = [] ↔ ¬ Rch (sucs N es) a b := by
  have hd := swap_dist N es b hb
  unfold pathF
  simp only
  split
  · rename_i hn
    refine ⟨fun _ hr => ?_, fun _ => rfl⟩
    obtain ⟨m, hm⟩ := hr.walk
    have := (walk_dist hd hm).1
    omega
  · rename_i hn
    obtain ⟨m, hm⟩ : ∃ m : Nat, gD (bfsD (sucs N (es.map swapE)) 0 b) a = m := ⟨(gD (bfsD (sucs N (es.map swapE)) 0 b) a).toNat, by omega⟩
    rw [hm]
    have := (descP_way hd m a hm).2
    refine ⟨fun e => ?_, fun e => absurd (dist_walk hd m a hm).rch e⟩
    rw [Int.toNat_natCast] at e
    rw [e] at this
    simp at this
/-- a path is a way, of as many steps as the distance. -/
theorem pathF_way {N : Nat} {es : List (Int × Int)} {a b : Nat} (hb : b < N) (hr : Rch (sucs N es) a b) :
    IsWay (sucs N es) (pathF N es a b) a b ∧ ∃ m, (pathF N es a b).length = m + 1 ∧ Walk (sucs N es) a b m ∧ ∀ k, Walk (sucs N es) a b k → m ≤ k := by
  have hd := swap_dist N es b hb
  obtain ⟨k, hk⟩ := hr.walk
  have h0 := (walk_dist hd hk).1
  obtain ⟨m, hm⟩ : ∃ m : Nat, gD (bfsD (sucs N (es.map swapE)) 0 b) a = m := ⟨(gD (bfsD (sucs N (es.map swapE)) 0 b) a).toNat, by omega⟩
  have he : pathF N es a b = descP (sucs N es) (bfsD (sucs N (es.map swapE)) 0 b) m a := by
    unfold pathF
    simp only
    rw [if_neg (by omega), hm, Int.toNat_natCast]
  rw [he]
  obtain ⟨h1, h2⟩ := descP_way hd m a hm
  refine ⟨h1, m, h2, dist_walk hd m a hm, fun k hk => ?_⟩
  have := (walk_dist hd hk).2
  omega
/-- no edge makes a way shorter. -/
theorem pathF_edge {N : Nat} {es : List (Int × Int)} {a u v : Nat} (hu : u < N) (hv : v < N) (he : ((u : Int), (v : Int)) ∈ es) (hl : 0 < (pathF N es a u).length) : (pathF N es a v).length ≤ (pathF N es a u).length + 1 := by
  have hr : Rch (sucs N es) a u := Classical.byContradiction fun h => by
    rw [(pathF_nil hu).2 h] at hl
    simp at hl
  obtain ⟨_, m, h1, h2, _⟩ := pathF_way hu hr
  have hw := h2.snoc (mem_sucs.2 ⟨hu, hv, he⟩)
  obtain ⟨_, n, h3, _, h4⟩ := pathF_way hv hw.rch
  have := h4 _ hw
  omega
theorem pathF_self {N : Nat} {es : List (Int × Int)} {a : Nat} (ha : a < N) : (pathF N es a a).length = 1 := by
  obtain ⟨_, m, h1, _, h2⟩ := pathF_way (es := es) ha (.refl a)
  have := h2 0 (.nil a)
  omega
end Go.Proofs.Ytlcgbkeggmaljaa
