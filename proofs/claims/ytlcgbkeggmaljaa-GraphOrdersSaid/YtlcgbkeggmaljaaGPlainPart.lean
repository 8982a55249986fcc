/- Graphs, plain: the components in their order are the sets of nodes that reach each other, and edges lead to earlier ones. -/
import Derived.Test.YtlcgbkeggmaljaaPK
namespace Go.Proofs.Ytlcgbkeggmaljaa
set_option linter.unusedVariables false
set_option linter.unusedSimpArgs false

/-- the places of the components in their order. -/
structure PosP (N : Nat) (es : List (Int × Int)) (pos : Nat → Nat) : Prop where
  mem : ∀ (i : Nat) (row : List Nat), (compsG N es)[i]? = some row → ∀ n, n ∈ row ↔ n < N ∧ pos (clG N es n) = i
  srt : ∀ (i : Nat) (row : List Nat), (compsG N es)[i]? = some row → row.Pairwise (· < ·) ∧ 0 < row.length
  lt : ∀ n, n < N → pos (clG N es n) < (compsG N es).length
  inj : ∀ a b, a < N → b < N → (pos (clG N es a) = pos (clG N es b) ↔ clG N es a = clG N es b)
  down : ∀ a b, a < N → b ∈ (sucs N es).getD a [] → pos (clG N es b) ≤ pos (clG N es a)
theorem comps_len (N : Nat) (es : List (Int × Int)) : (compsG N es).length = (nodesG N es).length := by
  unfold compsG
  rw [List.length_map, listF_length, (condG_len N es).1]
theorem pos_ok (N : Nat) (es : List (Int × Int)) : ∃ pos, PosP N es pos := by
  have ho := listG_ok N es
  have hnod : (listF (condG N es)).Nodup := ho.nod
  have hlen : (listF (condG N es)).length = (nodesG N es).length := by rw [listF_length, (condG_len N es).1]
  have hex : ∀ c, c < (nodesG N es).length → ∃ i, (listF (condG N es))[i]? = some c := fun c hc => List.mem_iff_getElem?.1 ((listG_mem c).2 hc)
  have huniq : ∀ i j c, (listF (condG N es))[i]? = some c → (listF (condG N es))[j]? = some c → i = j := fun i j c hi hj => by
    obtain ⟨h1, e1⟩ := List.getElem?_eq_some_iff.1 hi
    obtain ⟨h2, e2⟩ := List.getElem?_eq_some_iff.1 hj
    rcases Nat.lt_trichotomy i j with h | h | h
    · exact absurd (e1.trans e2.symm) (List.pairwise_iff_getElem.1 hnod i j h1 h2 h)
    · exact h
    · exact absurd (e2.trans e1.symm) (List.pairwise_iff_getElem.1 hnod j i h2 h1 h)
  have hch : ∃ pos : Nat → Nat, ∀ c, c < (nodesG N es).length → (listF (condG N es))[pos c]? = some c :=
    ⟨fun c => @dite _ (c < (nodesG N es).length) (Classical.propDecidable _) (fun h => (hex c h).choose) (fun _ => 0), fun c hc => by
      show (listF (condG N es))[@dite _ (c < (nodesG N es).length) (Classical.propDecidable _) (fun h => (hex c h).choose) (fun _ => 0)]? = _
      rw [dif_pos hc]
      exact (hex c hc).choose_spec⟩
  obtain ⟨pos, hpos⟩ := hch
  have hcomp : ∀ i row, (compsG N es)[i]? = some row → ∃ c, (listF (condG N es))[i]? = some c ∧ row = (nodesG N es).getD c [] ∧ c < (nodesG N es).length := fun i row h => by
    unfold compsG at h
    rw [List.getElem?_map, Option.map_eq_some_iff] at h
    obtain ⟨c, h1, h2⟩ := h
    exact ⟨c, h1, h2.symm, (listG_mem c).1 (List.mem_of_getElem? h1)⟩
  refine ⟨pos, fun i row h n => ?_, fun i row h => ?_, fun n hn => ?_, fun a b ha hb => ⟨fun e => ?_, fun e => by rw [e]⟩, fun a b ha hb => ?_⟩
  · obtain ⟨c, h1, rfl, hc⟩ := hcomp i row h
    rw [nodesG_mem]
    refine and_congr_right fun hn => ⟨fun e => ?_, fun e => ?_⟩
    · rw [e]; exact huniq _ _ c (hpos c hc) h1
    · have h2 := hpos _ (clG_lt (es := es) hn)
      rw [e, h1] at h2
      exact (Option.some.inj h2).symm
  · obtain ⟨c, h1, rfl, hc⟩ := hcomp i row h
    refine ⟨nodesG_srt N es c, ?_⟩
    obtain ⟨a, ha, _⟩ := nodesG_hd hc
    cases e : (nodesG N es).getD c [] with
    | nil => rw [e] at ha; cases ha
    | cons x l => simp
  · have := (List.getElem?_eq_some_iff.1 (hpos _ (clG_lt (es := es) hn))).1
    rw [comps_len]
    omega
  · have h1 := hpos _ (clG_lt (es := es) ha)
    have h2 := hpos _ (clG_lt (es := es) hb)
    rw [e, h2] at h1
    exact (Option.some.inj h1).symm
  · have hbN : b < N := by have := sucs_lt (N := N) (es := es) a b hb; rwa [sucs_length] at this
    by_cases e : clG N es a = clG N es b
    · rw [e]; exact Nat.le_refl _
    · have h1 := hpos _ (clG_lt (es := es) ha)
      have h2 := ho.top _ _ h1 (clG N es b) (condG_mem.2 ⟨a, b, ha, hb, rfl, rfl, e⟩)
      obtain ⟨j, hj⟩ := List.mem_iff_getElem?.1 h2
      have hjl : j < pos (clG N es a) := by have := (List.getElem?_eq_some_iff.1 hj).1; rw [List.length_take] at this; omega
      rw [List.getElem?_take, if_pos hjl] at hj
      have := huniq _ _ _ (hpos _ (clG_lt (es := es) hbN)) hj
      omega
end Go.Proofs.Ytlcgbkeggmaljaa
