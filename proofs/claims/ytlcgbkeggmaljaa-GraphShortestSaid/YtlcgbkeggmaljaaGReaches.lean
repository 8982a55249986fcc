/- The four calls that GraphReaches compares, each with what its result reads as. -/
import Derived.Test.YtlcgbkeggmaljaaGRef6
namespace Go.Proofs.Ytlcgbkeggmaljaa
set_option linter.unusedVariables false
set_option linter.unusedSimpArgs false
open Go Go.RowKit

/-- a call whose result reads as a list that P holds of, in whatever memory there is. -/
def RCon (f : Nat) (args : Array Value) (P : List Nat → Prop) (w : World) : Prop := ∀ W, Below w.heap.size w W → Calls Try.prog f args W fun e W' => ∃ v l, e = .returned v ∧ P l ∧ RowOf intC W'.heap.size v (l.map fun n : Nat => (n : Int)) W' ∧ l.length ≤ 1000000000 ∧ Below W.heap.size W W'
/-- what is reached. -/
def ReachP (N : Nat) (es : List (Int × Int)) (fr : List Int) (l : List Nat) : Prop := if (validG N es && fr.all (nodeB N)) = true then ReachS N es fr l else l = []
theorem reachP_unique {N : Nat} {es : List (Int × Int)} {fr : List Int} {l m : List Nat} (h : ReachP N es fr l) (k : ReachP N es fr m) : l = m := by
  unfold ReachP at h k
  split at h
  · rename_i hc
    rw [if_pos hc] at k
    exact reachS_unique h k
  · rename_i hc
    rw [if_neg hc] at k
    rw [h, k]
def PathP (N : Nat) (es : List (Int × Int)) (x y : Int) (l : List Nat) : Prop := l = if (validG N es && [x, y].all (nodeB N)) = true then pathF N es x.toNat y.toNat else []
theorem reachS_len {N : Nat} {es : List (Int × Int)} {fr : List Int} {l : List Nat} (h : ReachS N es fr l) : l.length ≤ N := by
  have h1 : l.Nodup := h.1.imp fun h => Nat.ne_of_lt h
  have hp : l.Perm ((List.range N).filter fun k => decide (k ∈ l)) := (List.perm_ext_iff_of_nodup h1 (List.nodup_range.filter _)).2 fun k => by
    rw [List.mem_filter, List.mem_range, decide_eq_true_eq]
    exact ⟨fun hk => ⟨((h.2 k).1 hk).1, hk⟩, fun hk => hk.2⟩
  rw [hp.length_eq]
  have := List.length_filter_le (fun k => decide (k ∈ l)) (List.range N)
  rwa [List.length_range] at this
theorem nodes_nat {N : Nat} {fr : List Int} (h : fr.all (nodeB N) = true) : fr = (fr.map Int.toNat).map Int.ofNat ∧ ∀ k ∈ fr.map Int.toNat, k < N := by
  rw [List.all_eq_true] at h
  have hh : ∀ x ∈ fr, 0 ≤ x ∧ x < (N : Int) := fun x hx => of_decide_eq_true (h x hx)
  refine ⟨?_, fun k hk => ?_⟩
  · rw [List.map_map]
    conv => lhs; rw [← List.map_id fr]
    refine List.map_congr_left fun x hx => ?_
    have := hh x hx
    show x = Int.ofNat x.toNat
    exact (Int.toNat_of_nonneg this.1).symm
  · obtain ⟨x, hx, rfl⟩ := List.mem_map.1 hk
    have := hh x hx
    omega
theorem row_of_own {W : World} {B n : Nat} {v : Value} {l : List Nat} (h : W.ownsRow B 3 1 v n (l.map natC)) : RowOf intC W.heap.size v (l.map fun n : Nat => (n : Int)) W := rowOf_cast (own_row h).2
theorem rreach_con (a : Option Addr) (N c : Nat) (ev lv : Value) (es : List (Int × Int)) (fr : List Int) (w : World) (hN : N ≤ 1000000) (hes : es.length ≤ 1000000000) (hE : EdgesOf w.heap.size ev es w) (hll : fr.length ≤ 1000000000) (hL : RowOf intC w.heap.size lv fr w) :
    RCon 14 #[.agg #[.slice a N c, ev], lv] (ReachP N es fr) w := by
  intro W hW
  have hE' := (hE.below hW (Nat.le_refl _)).mono hW.size
  have hL' := (hL.below hW (Nat.le_refl _)).mono hW.size
  by_cases hok : (validG N es && fr.all (nodeB N)) = true
  · rw [Bool.and_eq_true] at hok
    obtain ⟨h1, h2⟩ := nodes_nat hok.2
    have hL2 := hL'
    rw [h1] at hL2
    refine (rReach_yes a N c ev lv es (fr.map Int.toNat) W hE' (by rw [List.length_map]; exact hll) hL2 hok.1 h2).mono ?_
    rintro e W' ⟨v, l, rfl, hr, ho, hb⟩
    rw [← h1] at hr
    exact ⟨v, l, rfl, by unfold ReachP; rw [if_pos (by rw [hok.1, hok.2]; rfl)]; exact hr, row_of_own ho, by have := reachS_len hr; omega, hb⟩
  · refine (rReach_no a N c ev lv es fr W (by omega) (by omega) hE' hll hL' (by simpa using hok)).mono ?_
    rintro e W' ⟨rfl, hb⟩
    exact ⟨_, [], rfl, by unfold ReachP; rw [if_neg hok], .inl ⟨rfl, _, _, rfl⟩, by simp, hb⟩
theorem reach_con (a : Option Addr) (N c : Nat) (ev lv : Value) (es : List (Int × Int)) (fr : List Int) (w : World) (hN : N ≤ 1000000) (hes : es.length ≤ 1000000000) (hE : EdgesOf w.heap.size ev es w) (hll : fr.length ≤ 1000000000) (hL : RowOf intC w.heap.size lv fr w) :
    RCon 13 #[.agg #[.slice a N c, ev], lv] (ReachP N es fr) w := by
  intro W hW
  have hE' := (hE.below hW (Nat.le_refl _)).mono hW.size
  have hL' := (hL.below hW (Nat.le_refl _)).mono hW.size
  by_cases hok : (validG N es && fr.all (nodeB N)) = true
  · rw [Bool.and_eq_true] at hok
    obtain ⟨h1, h2⟩ := nodes_nat hok.2
    have hL2 := hL'
    rw [h1] at hL2
    refine (Reach_yes a N c ev lv es (fr.map Int.toNat) W hE' (by rw [List.length_map]; exact hll) hL2 hok.1 h2).mono ?_
    rintro e W' ⟨v, l, rfl, hr, ho, hb⟩
    rw [← h1] at hr
    exact ⟨v, l, rfl, by unfold ReachP; rw [if_pos (by rw [hok.1, hok.2]; rfl)]; exact hr, row_of_own ho, by have := reachS_len hr; omega, hb⟩
  · refine (Reach_no a N c ev lv es fr W (by omega) hE' hll hL' (by simpa using hok)).mono ?_
    rintro e W' ⟨rfl, hb⟩
    exact ⟨_, [], rfl, by unfold ReachP; rw [if_neg hok], .inl ⟨rfl, _, _, rfl⟩, by simp, hb⟩
theorem pathF_len {N : Nat} {es : List (Int × Int)} {x y : Nat} (hv : validG N es = true) (hx : x < N) (hy : y < N) : (pathF N es x y).length ≤ N + 1 := by
  have hd := bfsD_dist (S := sucs N (es.map swapE)) (least := 0) (to := y) sucs_lt (by rw [sucs_length]; exact hy)
  have hb := hd.bound sucs_lt (by rw [sucs_length]; exact hy) x
  rw [sucs_length] at hb
  unfold pathF
  simp only
  split
  · simp
  · have := descP_length (sucs N es) (bfsD (sucs N (es.map swapE)) 0 y) (gD (bfsD (sucs N (es.map swapE)) 0 y) x).toNat x
    omega
theorem path_con (a : Option Addr) (c : Nat) (ev : Value) (ns : List ByteArray) (es : List (Int × Int)) (x y : Int) (w : World) (hN : ns.length ≤ 1000000) (hes : es.length ≤ 1000000000) (hE : EdgesOf w.heap.size ev es w) (hR : RowOf Value.string w.heap.size (.slice a ns.length c) ns w) :
    RCon 15 #[.agg #[.slice a ns.length c, ev], .int .i64 x, .int .i64 y] (PathP ns.length es x y) w := by
  intro W hW
  have hE' := (hE.below hW (Nat.le_refl _)).mono hW.size
  have hR' := (hR.below hW (Nat.le_refl _)).mono hW.size
  by_cases hok : (validG ns.length es && [x, y].all (nodeB ns.length)) = true
  · have hok2 := hok
    rw [Bool.and_eq_true] at hok
    obtain ⟨h1, h2⟩ := nodes_nat hok.2
    have hx := h2 x.toNat (by simp)
    have hy := h2 y.toNat (by simp)
    have hall := List.all_eq_true.1 hok.2
    have hx0 : 0 ≤ x ∧ x < (ns.length : Int) := of_decide_eq_true (hall x (by simp))
    have hy0 : 0 ≤ y ∧ y < (ns.length : Int) := of_decide_eq_true (hall y (by simp))
    have hp := Path_yes (.slice a ns.length c) ev ns es x.toNat y.toNat W hE' hR' hok.1 hx hy
    rw [show natC x.toNat = .int .i64 x from by show Value.int .i64 ((x.toNat : Nat) : Int) = _; rw [Int.toNat_of_nonneg hx0.1], show natC y.toNat = .int .i64 y from by show Value.int .i64 ((y.toNat : Nat) : Int) = _; rw [Int.toNat_of_nonneg hy0.1]] at hp
    refine hp.mono ?_
    rintro e W' ⟨v, rfl, ho, hb⟩
    exact ⟨v, _, rfl, by unfold PathP; rw [if_pos hok2], row_of_own ho, by have := pathF_len hok.1 hx hy; omega, hb⟩
  · refine (Path_no (.slice a ns.length c) ev ns es x y W (by omega) hE' hR' (by simpa using hok)).mono ?_
    rintro e W' ⟨rfl, hb⟩
    exact ⟨_, [], rfl, by unfold PathP; rw [if_neg hok], .inl ⟨rfl, _, _, rfl⟩, by simp, hb⟩
theorem rpath_con (a : Option Addr) (N c : Nat) (ev : Value) (es : List (Int × Int)) (x y : Int) (w : World) (hN : N ≤ 1000000) (hes : es.length ≤ 1000000000) (hE : EdgesOf w.heap.size ev es w) :
    RCon 16 #[.agg #[.slice a N c, ev], .int .i64 x, .int .i64 y] (PathP N es x y) w := by
  intro W hW
  have hE' := (hE.below hW (Nat.le_refl _)).mono hW.size
  by_cases hok : (validG N es && [x, y].all (nodeB N)) = true
  · have hok2 := hok
    rw [Bool.and_eq_true] at hok
    obtain ⟨h1, h2⟩ := nodes_nat hok.2
    have hx := h2 x.toNat (by simp)
    have hy := h2 y.toNat (by simp)
    have hall := List.all_eq_true.1 hok.2
    have hx0 : 0 ≤ x ∧ x < (N : Int) := of_decide_eq_true (hall x (by simp))
    have hy0 : 0 ≤ y ∧ y < (N : Int) := of_decide_eq_true (hall y (by simp))
    have hp := rPath_yes a N c ev es x.toNat y.toNat W hE' hok.1 hx hy
    rw [show natC x.toNat = .int .i64 x from by show Value.int .i64 ((x.toNat : Nat) : Int) = _; rw [Int.toNat_of_nonneg hx0.1], show natC y.toNat = .int .i64 y from by show Value.int .i64 ((y.toNat : Nat) : Int) = _; rw [Int.toNat_of_nonneg hy0.1]] at hp
    refine hp.mono ?_
    rintro e W' ⟨v, rfl, ho, hb⟩
    exact ⟨v, _, rfl, by unfold PathP; rw [if_pos hok2], row_of_own ho, by have := pathF_len hok.1 hx hy; omega, hb⟩
  · refine (rPath_no a N c ev es x y W (by omega) (by omega) hE' (by simpa using hok)).mono ?_
    rintro e W' ⟨rfl, hb⟩
    exact ⟨_, [], rfl, by unfold PathP; rw [if_neg hok], .inl ⟨rfl, _, _, rfl⟩, by simp, hb⟩
end Go.Proofs.Ytlcgbkeggmaljaa
