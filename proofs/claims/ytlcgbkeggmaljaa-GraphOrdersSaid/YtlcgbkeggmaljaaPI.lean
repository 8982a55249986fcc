/- Contracts of the reference's Few and Valid. Contracts of the reference's exist, marks, list, Reach. Contracts of the reference's marks, list, Reach. Contracts of the reference's list and Reach. -/
import Derived.Test.YtlcgbkeggmaljaaPH
namespace Go.Proofs.Ytlcgbkeggmaljaa
set_option linter.unusedVariables false
set_option linter.unusedSimpArgs false
open Go Go.RowKit

set_option maxRecDepth 100000 in
set_option maxHeartbeats 2000000 in
theorem Few_any (a ao : Option Addr) (N c n ec : Nat) (w : World) : Calls Try.prog 11 #[.agg #[.slice a N c, .slice ao n ec]] w fun e w' => e = .returned (.bool (decide (N ≤ 14) && decide (n ≤ 60))) ∧ Below w.heap.size w w' := by
  by_cases h1 : N ≤ 14
  · have h1i : (N : Int) ≤ 14 := by omega
    by_cases h2 : n ≤ 60
    · have h2i : (n : Int) ≤ 60 := by omega
      have e : (decide (N ≤ 14) && decide (n ≤ 60)) = true := by rw [decide_eq_true h1, decide_eq_true h2]; rfl
      rw [e]; clear e
      go_enter Try.func11, Try.ntmps11
      go_wp2_with fail
      go_ret
      exact ⟨rfl, bel_alloc _ _⟩
    · have h2i : ¬ (n : Int) ≤ 60 := by omega
      have h3i : decide ((n : Int) ≤ 60) = false := decide_eq_false h2i
      have e : (decide (N ≤ 14) && decide (n ≤ 60)) = false := by rw [decide_eq_false h2, Bool.and_false]
      rw [e]; clear e
      go_enter Try.func11, Try.ntmps11
      go_wp2_with fail
      go_ret
      exact ⟨rfl, bel_alloc _ _⟩
  · have h1i : ¬ (N : Int) ≤ 14 := by omega
    have h3i : decide ((N : Int) ≤ 14) = false := decide_eq_false h1i
    have e : (decide (N ≤ 14) && decide (n ≤ 60)) = false := by rw [decide_eq_false h1, Bool.false_and]
    rw [e]; clear e
    go_enter Try.func11, Try.ntmps11
    go_wp2_with fail
    go_ret
    exact ⟨rfl, bel_alloc _ _⟩

/-- an edge between nodes. -/
def okE (N : Nat) (x : Int × Int) : Prop := 0 ≤ x.1 ∧ x.1 < N ∧ 0 ≤ x.2 ∧ x.2 < N
theorem validG_iff (N : Nat) (es : List (Int × Int)) : validG N es = true ↔ N ≤ 1024 ∧ es.length ≤ 4096 ∧ ∀ x ∈ es, okE N x := by
  unfold validG okE
  simp only [Bool.and_eq_true, decide_eq_true_eq, List.all_eq_true, and_assoc]

set_option maxRecDepth 100000 in
set_option maxHeartbeats 4000000 in
theorem rValid_any (a : Option Addr) (N c : Nat) (ev : Value) (es : List (Int × Int)) (w : World) (hN : N ≤ 1000000000000) (hes : es.length ≤ 1000000000000) (hE : EdgesOf w.heap.size ev es w) :
    Calls Try.prog 20 #[.agg #[.slice a N c, ev]] w fun e w' => e = .returned (.bool (validG N es)) ∧ Below w.heap.size w w' := by
  obtain ⟨ao, ec, rfl, hE2⟩ := hE
  have HE := Lib.hid hE2
  have HV := Lib.hid (validG_iff N es)
  clear hE2
  by_cases h1 : N ≤ 1024
  case neg =>
    have h1i : (1024 : Int) < (N : Int) := by omega
    have HF : Hid (validG N es = false) := Lib.hid (by rw [← Bool.not_eq_true, HV.out]; exact fun h => h1 h.1)
    go_enter Try.func20, Try.ntmps20
    go_wp2_with fail
    go_ret
    exact ⟨by rw [HF.out]; rfl, bel_alloc _ _⟩
  case pos =>
    have h1i : ¬ (1024 : Int) < (N : Int) := by omega
    have h1j : (N : Int) ≤ 1024 := by omega
    by_cases h2 : es.length ≤ 4096
    case neg =>
      have h2i : (4096 : Int) < (es.length : Int) := by omega
      have HF : Hid (validG N es = false) := Lib.hid (by rw [← Bool.not_eq_true, HV.out]; exact fun h => h2 h.2.1)
      go_enter Try.func20, Try.ntmps20
      go_wp2_with fail
      go_ret
      exact ⟨by rw [HF.out]; rfl, bel_alloc _ _⟩
    case pos =>
      have h2i : ¬ (4096 : Int) < (es.length : Int) := by omega
      have h2j : (es.length : Int) ≤ 4096 := by omega
      have HB0 : Hid (Below w.heap.size w (w.alloc (.cells #[.slice a N c, .slice ao es.length ec] 25))) := Lib.hid (bel_alloc _ _)
      have hg1 : (w.alloc (.cells #[.slice a N c, .slice ao es.length ec] 25)).cell? ⟨w.heap.size, 1, none⟩ = some (.slice ao es.length ec) := cell_of_row _ _ 1 _ _ _ (World.alloc_heap_new w _)
      go_enter Try.func20, Try.ntmps20
      go_wp2_with fail
      go_loopw [4] (fun q wr => ∃ k : Nat, k ≤ es.length ∧ q = .int .i64 k ∧ Hid (∀ x ∈ es.take k, okE N x) ∧ Hid (Below (w.heap.size + 1) (w.alloc (.cells #[.slice a N c, .slice ao es.length ec] 25)) wr)) (fun q _ => es.length - (intOf q).toNat)
      case atStart => exact ⟨0, by omega, rfl, Lib.hid (by simp), Lib.hid (Below.refl _ _)⟩
      case round =>
        obtain ⟨k, hk, rfl, HO, HB⟩ := hrel
        have hsb := HB.out.size
        simp only [World.size_alloc] at hsb
        have hgr : wr.cell? ⟨w.heap.size, 1, none⟩ = some (.slice ao es.length ec) := (HB.out.cell (p := ⟨w.heap.size, 1, none⟩) (by show w.heap.size < _; omega)).trans hg1
        by_cases hlt : k < es.length
        · have hk0 : (0 : Int) ≤ (k : Int) := by omega
          have hk1 : (k : Int) < (es.length : Int) := by omega
          obtain ⟨b, off, rfl, hb, hc1, hc2⟩ := HE.out k es[k] (by simp [hlt])
          have hc1 := ((HB0.out.trans (HB.out.mono (by omega))).cell (p := ⟨b, off + k * 2, none⟩) hb).trans hc1
          have hc2 := ((HB0.out.trans (HB.out.mono (by omega))).cell (p := ⟨b, off + k * 2 + 1, none⟩) hb).trans hc2
          have HT : Hid (es.take (k + 1) = es.take k ++ [es[k]]) := Lib.hid (List.take_succ_eq_append_getElem hlt)
          have HBAD : Hid (¬ (0 ≤ es[k].1 ∧ es[k].1 < N ∧ 0 ≤ es[k].2 ∧ es[k].2 < N) → validG N es = false) := Lib.hid fun h => by
            rw [← Bool.not_eq_true, HV.out]
            exact fun h9 => h (h9.2.2 _ (List.getElem_mem hlt))
          have HGOOD : Hid (0 ≤ es[k].1 ∧ es[k].1 < N ∧ 0 ≤ es[k].2 ∧ es[k].2 < N → ∀ x ∈ es.take (k + 1), okE N x) := Lib.hid fun h x hx => by
            rw [HT.out] at hx
            rcases List.mem_append.1 hx with hx | hx
            · exact HO.out x hx
            · rw [List.mem_singleton] at hx; rw [hx]; exact h
          obtain ⟨x1, hx1⟩ : ∃ x, x = es[k].1 := ⟨_, rfl⟩
          obtain ⟨x2, hx2⟩ : ∃ x, x = es[k].2 := ⟨_, rfl⟩
          rw [← hx1] at hc1 HBAD HGOOD
          rw [← hx2] at hc2 HBAD HGOOD
          clear hx1 hx2 HT
          by_cases q1 : x1 < 0
          · have p1 : decide (x1 < 0) = true := decide_eq_true q1
            go_wp2_with fail
            go_ret
            exact ⟨by rw [HBAD.out (by rintro ⟨a1, a2, a3, a4⟩; omega)]; rfl, HB0.out.trans ((HB.out.mono (by simp)).alloc (by have := HB.out.size; simp at this; omega) _)⟩
          · have p1 : decide (x1 < 0) = false := decide_eq_false q1
            by_cases q2 : (N : Int) ≤ x1
            · have p2 : decide ((N : Int) ≤ x1) = true := decide_eq_true q2
              go_wp2_with fail
              go_ret
              exact ⟨by rw [HBAD.out (by rintro ⟨a1, a2, a3, a4⟩; omega)]; rfl, HB0.out.trans ((HB.out.mono (by simp)).alloc (by have := HB.out.size; simp at this; omega) _)⟩
            · have p2 : decide ((N : Int) ≤ x1) = false := decide_eq_false q2
              by_cases q3 : x2 < 0
              · have p3 : decide (x2 < 0) = true := decide_eq_true q3
                go_wp2_with fail
                go_ret
                exact ⟨by rw [HBAD.out (by rintro ⟨a1, a2, a3, a4⟩; omega)]; rfl, HB0.out.trans ((HB.out.mono (by simp)).alloc (by have := HB.out.size; simp at this; omega) _)⟩
              · have p3 : decide (x2 < 0) = false := decide_eq_false q3
                by_cases q4 : (N : Int) ≤ x2
                · have p4 : decide ((N : Int) ≤ x2) = true := decide_eq_true q4
                  go_wp2_with fail
                  go_ret
                  exact ⟨by rw [HBAD.out (by rintro ⟨a1, a2, a3, a4⟩; omega)]; rfl, HB0.out.trans ((HB.out.mono (by simp)).alloc (by have := HB.out.size; simp at this; omega) _)⟩
                · have p4 : decide ((N : Int) ≤ x2) = false := decide_eq_false q4
                  have HG := Lib.hid (HGOOD.out ⟨by omega, by omega, by omega, by omega⟩)
                  clear HBAD HGOOD
                  go_wp2_with fail
                  go_roundw
                  case rel => exact ⟨k + 1, by omega, by go_num, HG, Lib.hid (HB.out.alloc (by omega) _)⟩
                  case measure => simp [intOf]; omega
        · have hkk : k = es.length := by omega
          subst hkk
          have HT : Hid (validG N es = true) := Lib.hid (HV.out.2 ⟨h1, h2, by have := HO.out; rwa [List.take_length] at this⟩)
          go_wp2_with fail
          go_ret
          exact ⟨by rw [HT.out]; rfl, HB0.out.trans (HB.out.mono (by omega))⟩
end Go.Proofs.Ytlcgbkeggmaljaa

namespace Go.Proofs.Ytlcgbkeggmaljaa
set_option linter.unusedVariables false
set_option linter.unusedSimpArgs false
open Go Go.RowKit

set_option maxRecDepth 100000 in
set_option maxHeartbeats 4000000 in
theorem rexist_any (a : Option Addr) (N c : Nat) (ev lv : Value) (es : List (Int × Int)) (l : List Int) (w : World) (hN : N ≤ 1000000000000) (hes : es.length ≤ 1000000000000) (hE : EdgesOf w.heap.size ev es w) (hll : l.length ≤ 1000000000) (hL : RowOf intC w.heap.size lv l w) :
    Calls Try.prog 43 #[.agg #[.slice a N c, ev], lv] w fun e w' => e = .returned (.bool (validG N es && l.all (nodeB N))) ∧ Below w.heap.size w w' := by
  obtain ⟨la, lc, rfl, hL2⟩ := rowOf_open hL
  have hE2 := hE
  obtain ⟨ao, ec, rfl, _⟩ := hE2
  have HL := Lib.hid hL2
  have HE := Lib.hid hE
  have HB0 : Hid (Below w.heap.size w (w.alloc (.cells #[.slice a N c, .slice ao es.length ec] 25))) := Lib.hid (bel_alloc _ _)
  have HG0 : Hid ((w.alloc (.cells #[.slice a N c, .slice ao es.length ec] 25)).heap[w.heap.size]? = some (.cells #[.slice a N c, .slice ao es.length ec] 25 (0, 0))) := Lib.hid (World.alloc_heap_new w _)
  clear hL2 hL hE
  go_enter Try.func43, Try.ntmps43
  go_wp2_with fail
  go_loopw [5] (fun q wr => ∃ k : Nat, k ≤ l.length ∧ q = .int .i64 k ∧ Hid ((l.take k).all (nodeB N) = true) ∧ Hid (Below (w.heap.size + 1) (w.alloc (.cells #[.slice a N c, .slice ao es.length ec] 25)) wr)) (fun q _ => l.length - (intOf q).toNat)
  case atStart => exact ⟨0, by omega, rfl, Lib.hid (by simp), Lib.hid (Below.refl _ _)⟩
  case round =>
    obtain ⟨k, hk, rfl, HA, HB⟩ := hrel
    have hsb := HB.out.size
    simp only [World.size_alloc] at hsb
    have hgr := (HB.out.block w.heap.size (by omega)).trans HG0.out
    have hg0 : wr.cell? ⟨w.heap.size, 0, none⟩ = some (.slice a N c) := cell_of_row _ _ 0 _ _ _ hgr
    have hg1 : wr.cell? ⟨w.heap.size, 1, none⟩ = some (.slice ao es.length ec) := cell_of_row _ _ 1 _ _ _ hgr
    have HBW := Lib.hid (HB0.out.trans (HB.out.mono (by omega)))
    by_cases hlt : k < l.length
    · have hk0 : (0 : Int) ≤ (k : Int) := by omega
      have hk1 : (k : Int) < (l.length : Int) := by omega
      obtain ⟨b, off, rfl, hb, hc1⟩ := HL.out k l[k] (by simp [hlt])
      have hc1 := (HBW.out.cell (p := ⟨b, off + k, none⟩) hb).trans hc1
      have HBAD : Hid (nodeB N l[k] = false → (validG N es && l.all (nodeB N)) = false) := Lib.hid fun h => by
        have : l.all (nodeB N) = false := by
          rw [← Bool.not_eq_true, List.all_eq_true]
          intro h9
          have := h9 _ (List.getElem_mem hlt)
          rw [h] at this
          cases this
        rw [this, Bool.and_false]
      have HGOOD : Hid (nodeB N l[k] = true → (l.take (k + 1)).all (nodeB N) = true) := Lib.hid fun h => by
        rw [List.take_succ_eq_append_getElem hlt, List.all_append, HA.out]
        simpa using h
      generalize l[k] = x at *
      by_cases q1 : x < 0
      · have p1 : decide (x < 0) = true := decide_eq_true q1
        have HX := Lib.hid (HBAD.out (by unfold nodeB; exact decide_eq_false (fun h => by omega)))
        clear hgr HBAD HGOOD
        go_wp2_with fail
        go_quiet (fail)
        go_wp2_with fail
        go_ret
        exact ⟨by rw [HX.out]; rfl, below_drewN HBW.out _⟩
      · have p1 : decide (x < 0) = false := decide_eq_false q1
        by_cases q2 : (N : Int) ≤ x
        · have p2 : decide ((N : Int) ≤ x) = true := decide_eq_true q2
          have HX := Lib.hid (HBAD.out (by unfold nodeB; exact decide_eq_false (fun h => by omega)))
          clear hgr HBAD HGOOD
          go_wp2_with fail
          go_quiet (fail)
          go_wp2_with fail
          go_ret
          exact ⟨by rw [HX.out]; rfl, below_drewN HBW.out _⟩
        · have p2 : decide ((N : Int) ≤ x) = false := decide_eq_false q2
          have HX := Lib.hid (HGOOD.out (by unfold nodeB; exact decide_eq_true ⟨by omega, by omega⟩))
          clear hgr HBAD HGOOD
          go_wp2_with fail
          go_quiet (fail)
          go_wp2_with fail
          go_roundw
          case rel => exact ⟨k + 1, by omega, by go_num, HX, Lib.hid (below_drewN HB.out _)⟩
          case measure => simp [intOf]; omega
    · have hkk : k = l.length := by omega
      subst hkk
      have hv := rValid_any a N c (.slice ao es.length ec) es wr hN hes ((HE.out.below HBW.out (Nat.le_refl _)).mono (by omega))
      have HV := Lib.hid hv
      have HX : Hid ((validG N es && l.all (nodeB N)) = validG N es) := Lib.hid (by have := HA.out; rw [List.take_length] at this; rw [this, Bool.and_true])
      clear hgr hv
      go_wp2_with fail
      refine HV.out.mono ?_
      rintro e w' ⟨rfl, hb⟩
      go_wp2_with fail
      go_ret
      exact ⟨by rw [HX.out]; rfl, HBW.out.trans (hb.mono (by omega))⟩

/-- which nodes are reached, as flags. -/
def MarkS (N : Nat) (es : List (Int × Int)) (fn : List Nat) (l : List Bool) : Prop := l.length = N ∧ ∀ k, bD l k = true ↔ k < N ∧ ∃ a ∈ fn, Rch (sucs N es) a k
theorem bD_lt {l : List Bool} {k : Nat} (h : bD l k = true) : k < l.length := by
  unfold bD at h
  rw [List.getD_eq_getElem?_getD] at h
  cases e : l[k]? with
  | none => rw [e] at h; cases h
  | some b => exact (List.getElem?_eq_some_iff.1 e).1
theorem bD_set (l : List Bool) (i k : Nat) (hi : i < l.length) : bD (l.set i true) k = if k = i then true else bD l k := by
  unfold bD
  rw [List.getD_eq_getElem?_getD, List.getD_eq_getElem?_getD]
  by_cases e : k = i
  · subst e; rw [if_pos rfl, List.getElem?_set_self hi]; rfl
  · rw [if_neg e, List.getElem?_set_ne (Ne.symm e)]
theorem mark_all {N : Nat} {es : List (Int × Int)} {fn : List Nat} {l : List Bool} (hl : l.length = N) (hv : validG N es = true) (hs : ∀ k, bD l k = true → ∃ a ∈ fn, Rch (sucs N es) a k) (hf : ∀ a ∈ fn, bD l a = true) (hc : ∀ x ∈ es, bD l x.1.toNat = true → bD l x.2.toNat = true) : MarkS N es fn l := by
  refine ⟨hl, fun k => ⟨fun h => ⟨by rw [← hl]; exact bD_lt h, hs k h⟩, ?_⟩⟩
  rintro ⟨_, a, ha, hr⟩
  have h0 := hf a ha
  clear ha
  induction hr with
  | refl => exact h0
  | step hb _ ih =>
    refine ih ?_ ?_
    · have := sucs_lt (N := N) (es := es) _ _ hb
      rw [sucs_length] at this
      omega
    · obtain ⟨_, _, hm⟩ := mem_sucs.1 hb
      have := hc _ hm (by simpa using h0)
      simpa using this
theorem reachS_of_mark {N : Nat} {es : List (Int × Int)} {fn : List Nat} {l : List Bool} (h : MarkS N es fn l) : ReachS N es (fn.map Int.ofNat) (marked l) := by
  refine ⟨?_, fun k => ?_⟩
  · unfold marked
    exact List.Pairwise.filter _ List.pairwise_lt_range
  · rw [mem_marked]
    have e : l[k]? = some true ↔ bD l k = true := by
      unfold bD
      rw [List.getD_eq_getElem?_getD]
      cases l[k]? with
      | none => simp
      | some b => cases b <;> simp
    rw [e, h.2 k]
    refine and_congr_right fun _ => ⟨fun ⟨a, ha, hr⟩ => ⟨a, List.mem_map.2 ⟨a, ha, rfl⟩, hr⟩, fun ⟨a, ha, hr⟩ => ?_⟩
    obtain ⟨b, hb, he⟩ := List.mem_map.1 ha
    have : a = b := by have h9 : (b : Int) = (a : Int) := he; omega
    subst this
    exact ⟨_, hb, hr⟩
theorem reachS_unique {N : Nat} {es : List (Int × Int)} {fn : List Int} {l m : List Nat} (h : ReachS N es fn l) (k : ReachS N es fn m) : l = m := by
  have hp : l.Perm m := (List.perm_ext_iff_of_nodup (h.1.imp fun h => Nat.ne_of_lt h) (k.1.imp fun h => Nat.ne_of_lt h)).2 fun a => (h.2 a).trans (k.2 a).symm
  exact hp.eq_of_pairwise (fun a b _ _ h1 h2 => by omega) h.1 k.1
end Go.Proofs.Ytlcgbkeggmaljaa

namespace Go.Proofs.Ytlcgbkeggmaljaa
set_option linter.unusedVariables false
set_option linter.unusedSimpArgs false
open Go Go.RowKit

/-- how many flags of a block are false. -/
def cntF (W : World) (g : Nat) : Nat := match W.heap[g]? with
  | some (.cells cs _ _) => cs.toList.countP fun v => match v with | .bool false => true | _ => false
  | _ => 0
theorem cntF_flags {W : World} {g : Nat} {l : List Bool} (h : Flags W g l) : cntF W g = unseen l := by
  unfold cntF
  rw [show W.heap[g]? = _ from h]
  show (l.map Value.bool).countP _ = _
  rw [List.countP_map]
  unfold unseen
  rw [List.count_eq_countP]
  congr 1
  funext b
  cases b <;> rfl
theorem unseen_mark {l : List Bool} {i : Nat} (hi : i < l.length) (hb : bD l i = false) : unseen (l.set i true) + 1 = unseen l := by
  refine unseen_set l i ?_
  unfold bD at hb
  rw [List.getD_eq_getElem?_getD, List.getElem?_eq_getElem hi] at hb
  rw [List.getElem?_eq_getElem hi]
  exact congrArg some hb
def bval : Value → Nat
  | .bool true => 1
  | _ => 0

set_option maxRecDepth 100000 in
set_option maxHeartbeats 4000000 in
theorem marks_any (a : Option Addr) (N c : Nat) (ev lv : Value) (es : List (Int × Int)) (fn : List Nat) (w : World) (hv : validG N es = true) (hE : EdgesOf w.heap.size ev es w) (hll : fn.length ≤ 1000000000) (hL : RowOf intC w.heap.size lv (fn.map Int.ofNat) w) (hn : ∀ k ∈ fn, k < N) :
    Calls Try.prog 45 #[.agg #[.slice a N c, ev], lv] w fun e w' => ∃ g l, e = .returned (.slice (some ⟨g, 0, none⟩) N N) ∧ w.heap.size ≤ g ∧ Flags w' g l ∧ MarkS N es fn l ∧ Below w.heap.size w w' := by
  obtain ⟨hN, hes⟩ := validG_n hv
  have hmk := make_bools N (by omega)
  obtain ⟨la, lc, rfl, hL2⟩ := rowOf_open hL
  rw [List.length_map]
  obtain ⟨ao, ec, rfl, hE2⟩ := hE
  have HL := Lib.hid hL2
  have HE := Lib.hid hE2
  have HV := Lib.hid hv
  have HN := Lib.hid hn
  have HG0 : Hid (((w.alloc (.cells #[.slice a N c, .slice ao es.length ec] 25)).alloc (.cells (Array.replicate N (.bool false)) 4)).heap[w.heap.size]? = some (.cells #[.slice a N c, .slice ao es.length ec] 25 (0, 0))) := Lib.hid ((Below.heap_alloc _ _ _ (by simp)).trans (World.alloc_heap_new w _))
  have HB0 : Hid (Below w.heap.size w ((w.alloc (.cells #[.slice a N c, .slice ao es.length ec] 25)).alloc (.cells (Array.replicate N (.bool false)) 4))) := Lib.hid (((Below.refl _ _).alloc (Nat.le_refl _) _).alloc (by simp) _)
  have HF0 : Hid (Flags ((w.alloc (.cells #[.slice a N c, .slice ao es.length ec] 25)).alloc (.cells (Array.replicate N (.bool false)) 4)) (w.heap.size + 1) (List.replicate N false)) := Lib.hid (by
    have := World.alloc_heap_new (w.alloc (.cells #[.slice a N c, .slice ao es.length ec] 25)) (.cells (Array.replicate N (.bool false)) 4)
    rw [World.size_alloc] at this
    refine this.trans ?_
    simp)
  clear hL2 hL hE2 hv hn
  go_enter Try.func45, Try.ntmps45
  go_wp2_with fail
  clear hmk
  go_loopw [6] (fun q wr => ∃ (k : Nat) (l : List Bool), k ≤ fn.length ∧ q = .int .i64 k ∧ Hid (Flags wr (w.heap.size + 1) l ∧ l.length = N ∧ (∀ a ∈ fn.take k, bD l a = true) ∧ ∀ a, bD l a = true → a ∈ fn) ∧ Hid (wr.heap[w.heap.size]? = some (.cells #[.slice a N c, .slice ao es.length ec] 25 (0, 0))) ∧ Hid (Below w.heap.size w wr)) (fun q _ => fn.length - (intOf q).toNat)
  case atStart => exact ⟨0, _, by omega, rfl, Lib.hid ⟨HF0.out, by simp, by simp, fun a h => by unfold bD at h; rw [List.getD_eq_getElem?_getD, List.getElem?_replicate] at h; split at h <;> cases h⟩, HG0, HB0⟩
  case round =>
    clear HG0 HB0 HF0
    obtain ⟨k, l, hk, rfl, HF, HG, HB⟩ := hrel
    have hll2 := HF.out.2.1
    have hsb : w.heap.size + 1 < wr.heap.size := (Array.getElem?_eq_some_iff.1 HF.out.1).1
    by_cases hlt : k < fn.length
    · have hk0 : (0 : Int) ≤ (k : Int) := by omega
      have hk1 : (k : Int) < (fn.length : Int) := by omega
      obtain ⟨b, off, rfl, hb, hc1⟩ := HL.out k (Int.ofNat fn[k]) (by rw [List.getElem?_map, List.getElem?_eq_getElem hlt]; rfl)
      have hc1 : wr.cell? ⟨b, off + k, none⟩ = some (natC fn[k]) := (HB.out.cell (p := ⟨b, off + k, none⟩) hb).trans hc1
      have hnk := HN.out _ (List.getElem_mem hlt)
      have HT : Hid (fn.take (k + 1) = fn.take k ++ [fn[k]]) := Lib.hid (List.take_succ_eq_append_getElem hlt)
      have HM : Hid (fn[k] ∈ fn) := Lib.hid (List.getElem_mem hlt)
      generalize fn[k] = n at *
      have hn0 : (0 : Int) ≤ (n : Int) := by omega
      have hn1 : (n : Int) < (N : Int) := by omega
      have hcf := HF.out.1.cell n l[n] (by simp [hll2, hnk])
      have hff : wr.frozen? ⟨w.heap.size + 1, n, none⟩ = false := frozen_of_row _ _ n _ _ HF.out.1
      go_wp2_with fail
      go_roundw
      case rel =>
        refine ⟨k + 1, l.set n true, by omega, by go_num, Lib.hid ⟨HF.out.1.set n true, by rw [List.length_set]; exact hll2, fun x hx => ?_, fun x hx => ?_⟩, Lib.hid ((heap_setCell_other _ _ _ _ (fun e => by have e : w.heap.size = w.heap.size + 1 := e; omega)).trans HG.out), Lib.hid (HB.out.setCell (by exact Nat.le_succ _) _)⟩
        · rw [bD_set _ _ _ (by omega)]
          split
          · rfl
          · rw [HT.out] at hx
            rcases List.mem_append.1 hx with hx | hx
            · exact HF.out.2.2.1 x hx
            · rw [List.mem_singleton] at hx; omega
        · rw [bD_set _ _ _ (by omega)] at hx
          split at hx
          · rename_i e; rw [e]; exact HM.out
          · exact HF.out.2.2.2 x hx
      case measure => simp [intOf]; omega
    · have hkk : k = fn.length := by omega
      subst hkk
      have HF1 : Hid (Flags wr (w.heap.size + 1) l ∧ l.length = N ∧ (∀ a ∈ fn, bD l a = true) ∧ ∀ a, bD l a = true → ∃ b ∈ fn, Rch (sucs N es) b a) := Lib.hid ⟨HF.out.1, HF.out.2.1, by have := HF.out.2.2.1; rwa [List.take_length] at this, fun a ha => ⟨a, HF.out.2.2.2 a ha, .refl _⟩⟩
      clear HF hll2
      go_wp2_with fail
      obtain ⟨wo, rfl⟩ : ∃ wo : World, wo = wr := ⟨_, rfl⟩
      go_loopw [7] (fun q wr => ∃ (l : List Bool) (ch : Bool), q = .bool ch ∧ Hid (Flags wr (w.heap.size + 1) l ∧ l.length = N ∧ (∀ a ∈ fn, bD l a = true) ∧ ∀ a, bD l a = true → ∃ b ∈ fn, Rch (sucs N es) b a) ∧ Hid (ch = false → ∀ x ∈ es, bD l x.1.toNat = true → bD l x.2.toNat = true) ∧ Hid (wr.heap[w.heap.size]? = some (.cells #[.slice a N c, .slice ao es.length ec] 25 (0, 0))) ∧ Hid (Below w.heap.size w wr)) (fun q wr => 2 * cntF wr (w.heap.size + 1) + bval q)
      case atStart => exact ⟨l, true, rfl, HF1, Lib.hid (fun h => by cases h), HG, HB⟩
      case round =>
        clear HF1 HG HB hsb
        obtain ⟨l0, ch, rfl, HF, HC, HG, HB⟩ := hrel
        cases ch with
        | false =>
          have HMS := Lib.hid (mark_all HF.out.2.1 HV.out HF.out.2.2.2 HF.out.2.2.1 (HC.out rfl))
          go_wp2_with fail
          go_ret
          exact ⟨_, rfl, by omega, l0, HF.out.1, HMS.out, HB.out⟩
        | true =>
          have HU0 := Lib.hid (cntF_flags HF.out.1)
          go_wp2_with fail
          obtain ⟨wo, rfl⟩ : ∃ wo : World, wo = wr := ⟨_, rfl⟩
          go_loopw [7, 8] (fun q r wr => ∃ (k : Nat) (l : List Bool) (ch : Bool), k ≤ es.length ∧ r = .int .i64 k ∧ q = .bool ch ∧ Hid (Flags wr (w.heap.size + 1) l ∧ l.length = N ∧ (∀ a ∈ fn, bD l a = true) ∧ ∀ a, bD l a = true → ∃ b ∈ fn, Rch (sucs N es) b a) ∧ Hid (ch = false → ∀ x ∈ es.take k, bD l x.1.toNat = true → bD l x.2.toNat = true) ∧ Hid (unseen l + ch.toNat ≤ unseen l0) ∧ Hid (wr.heap[w.heap.size]? = some (.cells #[.slice a N c, .slice ao es.length ec] 25 (0, 0))) ∧ Hid (Below w.heap.size w wr)) (fun _ r _ => es.length - (intOf r).toNat)
          case atStart => exact ⟨0, l0, false, by omega, rfl, rfl, HF, Lib.hid (fun _ x hx => by simp at hx), Lib.hid (by simp), HG, HB⟩
          case round =>
            clear HF HC HG HB
            obtain ⟨k, l, ch, hk, rfl, rfl, HF, HC, HU, HG, HB⟩ := hrel
            have hll2 := HF.out.2.1
            have hsb : w.heap.size + 1 < wr.heap.size := (Array.getElem?_eq_some_iff.1 HF.out.1).1
            have hg1 : wr.cell? ⟨w.heap.size, 1, none⟩ = some (.slice ao es.length ec) := cell_of_row _ _ 1 _ _ _ HG.out
            by_cases hlt : k < es.length
            · have hk0 : (0 : Int) ≤ (k : Int) := by omega
              have hk1 : (k : Int) < (es.length : Int) := by omega
              obtain ⟨b, off, rfl, hb, hc1, hc2⟩ := HE.out k es[k] (by simp [hlt])
              have hc1 := (HB.out.cell (p := ⟨b, off + k * 2, none⟩) hb).trans hc1
              have hc2 := (HB.out.cell (p := ⟨b, off + k * 2 + 1, none⟩) hb).trans hc2
              have HT : Hid (es.take (k + 1) = es.take k ++ [es[k]]) := Lib.hid (List.take_succ_eq_append_getElem hlt)
              have hed := validG_edge HV.out (List.getElem_mem hlt)
              have HM : Hid (es[k] ∈ es) := Lib.hid (List.getElem_mem hlt)
              obtain ⟨⟨x1, x2⟩, hx⟩ : ∃ x, x = es[k] := ⟨_, rfl⟩
              rw [← hx] at hc1 hc2 hed HT HM
              clear hx
              obtain ⟨i, rfl⟩ : ∃ i : Nat, x1 = (i : Int) := ⟨x1.toNat, by simp at hed; omega⟩
              obtain ⟨j, rfl⟩ : ∃ j : Nat, x2 = (j : Int) := ⟨x2.toNat, by simp at hed; omega⟩
              simp only at hc1 hc2 hed
              obtain ⟨hi0, hi1, hj0, hj1⟩ := hed
              have hbi : l[i]? = some (bD l i) := by unfold bD; rw [List.getD_eq_getElem?_getD, List.getElem?_eq_getElem (by omega)]; rfl
              have hbj : l[j]? = some (bD l j) := by unfold bD; rw [List.getD_eq_getElem?_getD, List.getElem?_eq_getElem (by omega)]; rfl
              have hci := cellA (.cells #[.int .i64 (i : Int), .int .i64 (j : Int)] 39) (HF.out.1.cell i _ hbi)
              have hcj0 := HF.out.1.cell j _ hbj
              have hcj := cellA (.cells #[.int .i64 (i : Int), .int .i64 (j : Int)] 39) hcj0
              have hfj := frozA (.cells #[.int .i64 (i : Int), .int .i64 (j : Int)] 39) hcj0 (frozen_of_row _ _ j _ _ HF.out.1)
              have HFA : Hid (Flags (wr.alloc (.cells #[.int .i64 (i : Int), .int .i64 (j : Int)] 39)) (w.heap.size + 1) l) := Lib.hid ((Below.heap_alloc _ _ _ hsb).trans HF.out.1)
              have HGA : Hid ((wr.alloc (.cells #[.int .i64 (i : Int), .int .i64 (j : Int)] 39)).heap[w.heap.size]? = some (.cells #[.slice a N c, .slice (some ⟨b, off, none⟩) es.length ec] 25 (0, 0))) := Lib.hid ((Below.heap_alloc _ _ _ (by omega)).trans HG.out)
              have HBA : Hid (Below w.heap.size w (wr.alloc (.cells #[.int .i64 (i : Int), .int .i64 (j : Int)] 39))) := Lib.hid (HB.out.alloc (by omega) _)
              have HNX : Hid (bD l i = false ∨ bD l j = true → ch = false → ∀ x ∈ es.take (k + 1), bD l x.1.toNat = true → bD l x.2.toNat = true) := Lib.hid fun h hch x hx h1 => by
                rw [HT.out] at hx
                rcases List.mem_append.1 hx with hx | hx
                · exact HC.out hch x hx h1
                · rw [List.mem_singleton] at hx
                  subst hx
                  rcases h with h | h
                  · have h9 : bD l i = true := h1
                    rw [h] at h9; cases h9
                  · exact h
              have HBI : Hid (∀ b, bD l i = b → bD l i = b) := Lib.hid (fun _ h => h)
              clear hbi hbj hcj0
              cases hqi : bD l i with
              | false =>
                rw [hqi] at hci
                have HX := Lib.hid (HNX.out (.inl hqi))
                clear hqi HNX HBI
                go_wp2_with fail
                go_roundw
                case rel => exact ⟨k + 1, l, ch, by omega, by go_num, rfl, Lib.hid ⟨HFA.out, HF.out.2⟩, HX, HU, HGA, HBA⟩
                case measure => simp [intOf]; omega
              | true =>
                rw [hqi] at hci
                cases hqj : bD l j with
                | true =>
                  rw [hqj] at hcj
                  have HX := Lib.hid (HNX.out (.inr hqj))
                  clear hqi hqj HNX HBI
                  go_wp2_with fail
                  go_roundw
                  case rel => exact ⟨k + 1, l, ch, by omega, by go_num, rfl, Lib.hid ⟨HFA.out, HF.out.2⟩, HX, HU, HGA, HBA⟩
                  case measure => simp [intOf]; omega
                | false =>
                  rw [hqj] at hcj
                  have HQI := Lib.hid hqi
                  have HQJ := Lib.hid hqj
                  have hne1 : w.heap.size + 1 ≠ wr.heap.size := by omega
                  have hne2 : wr.heap.size ≠ w.heap.size + 1 := by omega
                  clear hqi hqj HNX HBI
                  go_wp2_with fail
                  go_roundw
                  case rel =>
                    refine ⟨k + 1, l.set j true, true, by omega, by go_num, rfl, Lib.hid ⟨(Below.heap_alloc _ _ _ (by rw [World.size_setCell]; exact hsb)).trans (HF.out.1.set j true), by rw [List.length_set]; exact hll2, fun x hx => ?_, fun x hx => ?_⟩, Lib.hid (fun h => by cases h), Lib.hid ?_, Lib.hid ((Below.heap_alloc _ _ _ (by rw [World.size_setCell]; omega)).trans ((heap_setCell_other _ _ _ _ (fun e => by have e : w.heap.size = w.heap.size + 1 := e; omega)).trans HG.out)), Lib.hid ((HB.out.setCell (by exact Nat.le_succ _) _).alloc (by rw [World.size_setCell]; omega) _)⟩
                    · rw [bD_set _ _ _ (by omega)]
                      split
                      · rfl
                      · exact HF.out.2.2.1 x hx
                    · rw [bD_set _ _ _ (by omega)] at hx
                      split at hx
                      · rename_i e
                        obtain ⟨b9, hb9, hr9⟩ := HF.out.2.2.2 i HQI.out
                        exact ⟨b9, hb9, hr9.trans (.step (mem_sucs.2 ⟨by omega, by omega, by rw [e]; exact HM.out⟩) (.refl _))⟩
                      · exact HF.out.2.2.2 x hx
                    · have h1 := unseen_mark (l := l) (i := j) (by omega) HQJ.out
                      have h2 := HU.out
                      show unseen (l.set j true) + 1 ≤ _
                      omega
                  case measure => simp [intOf]; omega
            · have hkk : k = es.length := by omega
              subst hkk
              have HC2 : Hid (ch = false → ∀ x ∈ es, bD l x.1.toNat = true → bD l x.2.toNat = true) := Lib.hid (by have := HC.out; rwa [List.take_length] at this)
              go_wp2_with fail
              go_roundw
              case rel => exact ⟨l, ch, rfl, HF, HC2, HG, HB⟩
              case measure =>
                have e1 := cntF_flags HF.out.1
                have e2 := HU0.out
                have e3 := HU.out
                simp only [bval] at *
                cases ch <;> simp at * <;> omega
end Go.Proofs.Ytlcgbkeggmaljaa

namespace Go.Proofs.Ytlcgbkeggmaljaa
set_option linter.unusedVariables false
set_option linter.unusedSimpArgs false
open Go Go.RowKit

set_option maxRecDepth 100000 in
set_option maxHeartbeats 4000000 in
theorem list_any (g c : Nat) (sn : List Bool) (w : World) (hF : Flags w g sn) (hl : sn.length ≤ 1000000) :
    Calls Try.prog 44 #[.slice (some ⟨g, 0, none⟩) sn.length c] w fun e w' => ∃ v, e = .returned v ∧ w'.ownsRow w.heap.size 3 1 v (marked sn).length ((marked sn).map natC) ∧ Below w.heap.size w w' := by
  obtain ⟨N, hN⟩ : ∃ N, N = sn.length := ⟨_, rfl⟩
  rw [← hN] at hl ⊢
  have HN := Lib.hid hN
  have hgl : g < w.heap.size := (Array.getElem?_eq_some_iff.1 hF).1
  have HF := Lib.hid hF
  clear hN hF
  obtain ⟨i0, hi0', hz0, hz1, hz2⟩ := info_parts info_ints
  have HO0 := Lib.hid (own_made w.heap.size 3 0 [] w (Nat.le_refl _) (by decide) rfl)
  have HB0 : Hid (Below w.heap.size w (w.alloc (.cells #[] 3))) := Lib.hid (bel_alloc _ _)
  go_enter Try.func44, Try.ntmps44
  go_wp2_with fail
  go_loopw [3, 4] (fun o p wr => ∃ k : Nat, k ≤ N ∧ p = .int .i64 k ∧ Hid (wr.ownsRow w.heap.size 3 1 o ((List.range k).filter fun i => sn.getD i false).length (((List.range k).filter fun i => sn.getD i false).map natC)) ∧ Hid (Below w.heap.size w wr)) (fun _ p _ => N - (intOf p).toNat)
  case atStart => exact ⟨0, by omega, rfl, HO0, HB0⟩
  case round =>
    clear HO0 HB0
    obtain ⟨k, hk, rfl, HO, HB⟩ := hrel
    have hsb := HB.out.size
    obtain ⟨oa, oc, rfl⟩ := own_any HO.out
    by_cases hlt : k < N
    · have hk0 : (0 : Int) ≤ (k : Int) := by omega
      have hk1 : (k : Int) < (N : Int) := by omega
      have hsk : k < sn.length := by rw [← HN.out]; exact hlt
      have hc1 := (HB.out.cell (p := ⟨g, k, none⟩) hgl).trans (HF.out.cell k sn[k] (by simp [hsk]))
      have HM := Lib.hid (marked_take sn k hsk)
      have hle : ((List.range k).filter fun i => sn.getD i false).length ≤ k := by
        have := List.length_filter_le (fun i => sn.getD i false) (List.range k)
        simpa using this
      generalize sn[k] = b at *
      cases b with
      | true =>
        have HM2 : Hid ((List.range (k + 1)).filter (fun i => sn.getD i false) = (List.range k).filter (fun i => sn.getD i false) ++ [k]) := Lib.hid (by rw [HM.out, if_pos rfl])
        generalize (List.range k).filter (fun i => sn.getD i false) = lk at *
        go_wp2_with (at_builtin; refine wpList_append_own _ rfl _ _ 26 rfl w.heap.size 3 i0 (.int .i64 0) 1 8 Try.underlying26 hi0' hz0 hz1 hz2 rfl (by decide) _ _ _ (by rfl) (HO.out.alloc _) ⟨wr.heap.size, 0, none⟩ 1 1 [natC k] (by rfl) (by rfl) (World.news_of_block (cs := #[natC k]) (t := 3) (fr := (0, 0)) (heap_alloc_new wr _)) (by simp [Value.oneCell']) (by unfold maxLen; omega) (by omega) (by simp; omega) ?_; intro v' w5 hown' hgrow _)
        go_roundw
        case rel => exact ⟨k + 1, by omega, by go_num, Lib.hid (by rw [HM2.out, List.length_append, List.map_append]; exact hown'), Lib.hid ((HB.out.alloc hsb _).grown hgrow (by simp; omega) (fun j hj => (HO.out.lt j hj).1))⟩
        case measure => simp [intOf]; omega
      | false =>
        go_wp2_with fail
        go_roundw
        case rel => exact ⟨k + 1, by omega, by go_num, Lib.hid (by rw [HM.out, if_neg (by simp)]; exact HO.out), HB⟩
        case measure => simp [intOf]; omega
    · have hkk : k = N := by omega
      subst hkk
      go_wp2_with fail
      go_ret
      refine ⟨_, rfl, ?_, HB.out⟩
      unfold marked
      rw [← HN.out]
      exact HO.out

set_option maxRecDepth 100000 in
set_option maxHeartbeats 4000000 in
theorem rReach_no (a : Option Addr) (N c : Nat) (ev lv : Value) (es : List (Int × Int)) (l : List Int) (w : World) (hN : N ≤ 1000000000000) (hes : es.length ≤ 1000000000000) (hE : EdgesOf w.heap.size ev es w) (hll : l.length ≤ 1000000000) (hL : RowOf intC w.heap.size lv l w) (hno : (validG N es && l.all (nodeB N)) = false) :
    Calls Try.prog 14 #[.agg #[.slice a N c, ev], lv] w fun e w' => e = .returned (.slice none 0 0) ∧ Below w.heap.size w w' := by
  have hb1 : Below w.heap.size w (w.alloc (.cells #[.slice a N c, ev] 25)) := bel_alloc _ _
  have hx := rexist_any a N c ev lv es l _ hN hes ((hE.below hb1 (Nat.le_refl _)).mono hb1.size) hll ((hL.below hb1 (Nat.le_refl _)).mono hb1.size)
  rw [hno] at hx
  obtain ⟨la, lc, rfl, _⟩ := rowOf_open hL
  obtain ⟨ao, ec, rfl, _⟩ := hE
  have HX := Lib.hid hx
  have HB1 := Lib.hid hb1
  clear hx hb1 hL hno
  go_enter Try.func14, Try.ntmps14
  go_wp2_with fail
  refine HX.out.mono ?_
  rintro e w1 ⟨rfl, hb⟩
  go_wp2_with fail
  go_ret
  exact ⟨rfl, HB1.out.trans (hb.mono (by simp))⟩

set_option maxRecDepth 100000 in
set_option maxHeartbeats 4000000 in
theorem rReach_yes (a : Option Addr) (N c : Nat) (ev lv : Value) (es : List (Int × Int)) (fn : List Nat) (w : World) (hE : EdgesOf w.heap.size ev es w) (hll : fn.length ≤ 1000000000) (hL : RowOf intC w.heap.size lv (fn.map Int.ofNat) w) (hv : validG N es = true) (hn : ∀ k ∈ fn, k < N) :
    Calls Try.prog 14 #[.agg #[.slice a N c, ev], lv] w fun e w' => ∃ v l, e = .returned v ∧ ReachS N es (fn.map Int.ofNat) l ∧ w'.ownsRow w.heap.size 3 1 v l.length (l.map natC) ∧ Below w.heap.size w w' := by
  obtain ⟨hN, hes⟩ := validG_n hv
  have hb1 : Below w.heap.size w (w.alloc (.cells #[.slice a N c, ev] 25)) := bel_alloc _ _
  have hall : (fn.map Int.ofNat).all (nodeB N) = true := by
    rw [List.all_eq_true]
    intro x hx
    obtain ⟨y, hy, rfl⟩ := List.mem_map.1 hx
    have := hn y hy
    unfold nodeB
    exact decide_eq_true ⟨Int.natCast_nonneg y, by have h9 : ((y : Nat) : Int) < (N : Int) := by omega
                                                   exact h9⟩
  have hx := rexist_any a N c ev lv es (fn.map Int.ofNat) _ (by omega) (by omega) ((hE.below hb1 (Nat.le_refl _)).mono hb1.size) (by rw [List.length_map]; exact hll) ((hL.below hb1 (Nat.le_refl _)).mono hb1.size)
  rw [hv, hall] at hx
  have hL0 := hL
  have hE0 := hE
  obtain ⟨la, lc, hlv, _⟩ := rowOf_open hL
  rw [List.length_map] at hlv
  subst hlv
  obtain ⟨ao, ec, rfl, _⟩ := hE
  have HX := Lib.hid hx
  have HB1 := Lib.hid hb1
  have HL := Lib.hid hL0
  have HE := Lib.hid hE0
  have HV := Lib.hid hv
  have HN := Lib.hid hn
  clear hx hb1 hL hL0 hE0 hall hv hn
  go_enter Try.func14, Try.ntmps14
  go_wp2_with fail
  refine HX.out.mono ?_
  rintro e w1 ⟨rfl, hb⟩
  have hs1 := hb.size
  simp only [World.size_alloc] at hs1
  have hblk := (hb.block w.heap.size (by simp)).trans (World.alloc_heap_new w _)
  have hg0 : w1.cell? ⟨w.heap.size, 0, none⟩ = some (.slice a N c) := cell_of_row _ _ 0 _ _ _ hblk
  have hg1 : w1.cell? ⟨w.heap.size, 1, none⟩ = some (.slice ao es.length ec) := cell_of_row _ _ 1 _ _ _ hblk
  have HW1 := Lib.hid (HB1.out.trans (hb.mono (by simp)))
  have hm := marks_any a N c _ _ es fn w1 HV.out ((HE.out.below HW1.out (Nat.le_refl _)).mono (by omega)) hll ((HL.out.below HW1.out (Nat.le_refl _)).mono (by omega)) HN.out
  have HM := Lib.hid hm
  clear hb hblk hm
  go_wp2_with fail
  refine HM.out.mono ?_
  rintro e w2 ⟨g, sn, rfl, hg, hF, hms, hb2⟩
  have hsl := hms.1
  have hlist := list_any g N sn w2 hF (by omega)
  rw [hsl] at hlist
  have HLI := Lib.hid hlist
  have hs2 := hb2.size
  have HW2 := Lib.hid (HW1.out.trans (hb2.mono (by omega)))
  have HRS := Lib.hid (reachS_of_mark hms)
  clear hF hms hb2 hlist HM hg0 hg1
  go_wp2_with fail
  refine HLI.out.mono ?_
  rintro e w3 ⟨v, rfl, ho, hb3⟩
  have HO := Lib.hid ho
  have HB3 := Lib.hid hb3
  clear ho hb3
  go_wp2_with fail
  go_ret
  exact ⟨_, _, rfl, HRS.out, ⟨HO.out.1, HO.out.2.imp id fun ⟨g, cap, cur, h1, h2, h3⟩ => ⟨g, cap, cur, h1, by omega, h3⟩⟩, HW2.out.trans (HB3.out.mono (by omega))⟩
end Go.Proofs.Ytlcgbkeggmaljaa
