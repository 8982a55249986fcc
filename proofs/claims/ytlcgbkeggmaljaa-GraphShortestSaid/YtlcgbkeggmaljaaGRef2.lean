/- Contracts of the reference's exist, marks, list, Reach. -/
import Derived.Test.YtlcgbkeggmaljaaGRef1
namespace Go.Proofs.Ytlcgbkeggmaljaa
set_option linter.unusedVariables false
set_option linter.unusedSimpArgs false
open Go Go.RowKit

set_option maxRecDepth 100000 in
set_option maxHeartbeats 4000000 in
theorem rexist_any (a : Option Addr) (N c : Nat) (ev lv : Value) (es : List (Int × Int)) (l : List Int) (w : World) (hN : N ≤ 1000000000000) (hes : es.length ≤ 1000000000000) (hE : EdgesOf w.heap.size ev es w) (hll : l.length ≤ 1000000000) (hL : RowOf intC w.heap.size lv l w) :
    Calls Try.prog 43 #[.agg #[.slice a N c, ev], lv] w fun e w' => e = .returned (.bool (validG N es && l.all (nodeB N))) ∧ Below w.heap.size w w' := by
  obtain ⟨la, lc, rfl, hL2⟩ := rowOf_open hL
  have hE2 := hE
  obtain ⟨ao, ec, rfl, _⟩ := hE2
  have HL := Lib.hid hL2
  have HE := Lib.hid hE
  have HB0 : Hid (Below w.heap.size w (w.alloc (.cells #[.slice a N c, .slice ao es.length ec] 25))) := Lib.hid (bel_alloc _ _)
  have HG0 : Hid ((w.alloc (.cells #[.slice a N c, .slice ao es.length ec] 25)).heap[w.heap.size]? = some (.cells #[.slice a N c, .slice ao es.length ec] 25 (0, 0))) := Lib.hid (World.alloc_heap_new w _)
  clear hL2 hL hE
  go_enter Try.func43, Try.ntmps43
  go_wp2_with fail
  go_loopw [5] (fun q wr => ∃ k : Nat, k ≤ l.length ∧ q = .int .i64 k ∧ Hid ((l.take k).all (nodeB N) = true) ∧ Hid (Below (w.heap.size + 1) (w.alloc (.cells #[.slice a N c, .slice ao es.length ec] 25)) wr)) (fun q _ => l.length - (intOf q).toNat)
  case atStart => exact ⟨0, by omega, rfl, Lib.hid (by simp), Lib.hid (Below.refl _ _)⟩
  case round =>
    obtain ⟨k, hk, rfl, HA, HB⟩ := hrel
    have hsb := HB.out.size
    simp only [World.size_alloc] at hsb
    have hgr := (HB.out.block w.heap.size (by omega)).trans HG0.out
    have hg0 : wr.cell? ⟨w.heap.size, 0, none⟩ = some (.slice a N c) := cell_of_row _ _ 0 _ _ _ hgr
    have hg1 : wr.cell? ⟨w.heap.size, 1, none⟩ = some (.slice ao es.length ec) := cell_of_row _ _ 1 _ _ _ hgr
    have HBW := Lib.hid (HB0.out.trans (HB.out.mono (by omega)))
    by_cases hlt : k < l.length
    · have hk0 : (0 : Int) ≤ (k : Int) := by omega
      have hk1 : (k : Int) < (l.length : Int) := by omega
      obtain ⟨b, off, rfl, hb, hc1⟩ := HL.out k l[k] (by simp [hlt])
      have hc1 := (HBW.out.cell (p := ⟨b, off + k, none⟩) hb).trans hc1
      have HBAD : Hid (nodeB N l[k] = false → (validG N es && l.all (nodeB N)) = false) := Lib.hid fun h => by
        have : l.all (nodeB N) = false := by
          rw [← Bool.not_eq_true, List.all_eq_true]
          intro h9
          have := h9 _ (List.getElem_mem hlt)
          rw [h] at this
          cases this
        rw [this, Bool.and_false]
      have HGOOD : Hid (nodeB N l[k] = true → (l.take (k + 1)).all (nodeB N) = true) := Lib.hid fun h => by
        rw [List.take_succ_eq_append_getElem hlt, List.all_append, HA.out]
        simpa using h
      generalize l[k] = x at *
      by_cases q1 : x < 0
      · have p1 : decide (x < 0) = true := decide_eq_true q1
        have HX := Lib.hid (HBAD.out (by unfold nodeB; exact decide_eq_false (fun h => by omega)))
        clear hgr HBAD HGOOD
        go_wp2_with fail
        go_quiet (fail)
        go_wp2_with fail
        go_ret
        exact ⟨by rw [HX.out]; rfl, below_drewN HBW.out _⟩
      · have p1 : decide (x < 0) = false := decide_eq_false q1
        by_cases q2 : (N : Int) ≤ x
        · have p2 : decide ((N : Int) ≤ x) = true := decide_eq_true q2
          have HX := Lib.hid (HBAD.out (by unfold nodeB; exact decide_eq_false (fun h => by omega)))
          clear hgr HBAD HGOOD
          go_wp2_with fail
          go_quiet (fail)
          go_wp2_with fail
          go_ret
          exact ⟨by rw [HX.out]; rfl, below_drewN HBW.out _⟩
        · have p2 : decide ((N : Int) ≤ x) = false := decide_eq_false q2
          have HX := Lib.hid (HGOOD.out (by unfold nodeB; exact decide_eq_true ⟨by omega, by omega⟩))
          clear hgr HBAD HGOOD
          go_wp2_with fail
          go_quiet (fail)
          go_wp2_with fail
          go_roundw
          case rel => exact ⟨k + 1, by omega, by go_num, HX, Lib.hid (below_drewN HB.out _)⟩
          case measure => simp [intOf]; omega
    · have hkk : k = l.length := by omega
      subst hkk
      have hv := rValid_any a N c (.slice ao es.length ec) es wr hN hes ((HE.out.below HBW.out (Nat.le_refl _)).mono (by omega))
      have HV := Lib.hid hv
      have HX : Hid ((validG N es && l.all (nodeB N)) = validG N es) := Lib.hid (by have := HA.out; rw [List.take_length] at this; rw [this, Bool.and_true])
      clear hgr hv
      go_wp2_with fail
      refine HV.out.mono ?_
      rintro e w' ⟨rfl, hb⟩
      go_wp2_with fail
      go_ret
      exact ⟨by rw [HX.out]; rfl, HBW.out.trans (hb.mono (by omega))⟩

/-- which nodes are reached, as flags. -/
def MarkS (N : Nat) (es : List (Int × Int)) (fn : List Nat) (l : List Bool) : Prop := l.length = N ∧ ∀ k, bD l k = true ↔ k < N ∧ ∃ a ∈ fn, Rch (sucs N es) a k
theorem bD_lt {l : List Bool} {k : Nat} (h : bD l k = true) : k < l.length := by
  unfold bD at h
  rw [List.getD_eq_getElem?_getD] at h
  cases e : l[k]? with
  | none => rw [e] at h; cases h
  | some b => exact (List.getElem?_eq_some_iff.1 e).1
theorem bD_set (l : List Bool) (i k : Nat) (hi : i < l.length) : bD (l.set i true) k = if k = i then true else bD l k := by
  unfold bD
  rw [List.getD_eq_getElem?_getD, List.getD_eq_getElem?_getD]
  by_cases e : k = i
  · subst e; rw [if_pos rfl, List.getElem?_set_self hi]; rfl
  · rw [if_neg e, List.getElem?_set_ne (Ne.symm e)]
theorem mark_all {N : Nat} {es : List (Int × Int)} {fn : List Nat} {l : List Bool} (hl : l.length = N) (hv : validG N es = true) (hs : ∀ k, bD l k = true → ∃ a ∈ fn, Rch (sucs N es) a k) (hf : ∀ a ∈ fn, bD l a = true) (hc : ∀ x ∈ es, bD l x.1.toNat = true → bD l x.2.toNat = true) : MarkS N es fn l := by
  refine ⟨hl, fun k => ⟨fun h => ⟨by rw [← hl]; exact bD_lt h, hs k h⟩, ?_⟩⟩
  rintro ⟨_, a, ha, hr⟩
  have h0 := hf a ha
  clear ha
  induction hr with
  | refl => exact h0
  | step hb _ ih =>
    refine ih ?_ ?_
    · have := sucs_lt (N := N) (es := es) _ _ hb
      rw [sucs_length] at this
      omega
    · obtain ⟨_, _, hm⟩ := mem_sucs.1 hb
      have := hc _ hm (by simpa using h0)
      simpa using this
theorem reachS_of_mark {N : Nat} {es : List (Int × Int)} {fn : List Nat} {l : List Bool} (h : MarkS N es fn l) : ReachS N es (fn.map Int.ofNat) (marked l) := by
  refine ⟨?_, fun k => ?_⟩
  · unfold marked
    exact List.Pairwise.filter _ List.pairwise_lt_range
  · rw [mem_marked]
    have e : l[k]? = some true ↔ bD l k = true := by
      unfold bD
      rw [List.getD_eq_getElem?_getD]
      cases l[k]? with
      | none => simp
      | some b => cases b <;> simp
    rw [e, h.2 k]
    refine and_congr_right fun _ => ⟨fun ⟨a, ha, hr⟩ => ⟨a, List.mem_map.2 ⟨a, ha, rfl⟩, hr⟩, fun ⟨a, ha, hr⟩ => ?_⟩
    obtain ⟨b, hb, he⟩ := List.mem_map.1 ha
    have : a = b := by have h9 : (b : Int) = (a : Int) := he; omega
    subst this
    exact ⟨_, hb, hr⟩
theorem reachS_unique {N : Nat} {es : List (Int × Int)} {fn : List Int} {l m : List Nat} (h : ReachS N es fn l) (k : ReachS N es fn m) : l = m := by
  have hp : l.Perm m := (List.perm_ext_iff_of_nodup (h.1.imp fun h => Nat.ne_of_lt h) (k.1.imp fun h => Nat.ne_of_lt h)).2 fun a => (h.2 a).trans (k.2 a).symm
  exact hp.eq_of_pairwise (fun a b _ _ h1 h2 => by omega) h.1 k.1
end Go.Proofs.Ytlcgbkeggmaljaa
