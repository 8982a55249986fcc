/- Contracts of the reference's Few and Valid. -/
import Derived.Test.YtlcgbkeggmaljaaGAwake
namespace Go.Proofs.Ytlcgbkeggmaljaa
set_option linter.unusedVariables false
set_option linter.unusedSimpArgs false
open Go Go.RowKit

set_option maxRecDepth 100000 in
set_option maxHeartbeats 2000000 in
theorem Few_any (a ao : Option Addr) (N c n ec : Nat) (w : World) : Calls Try.prog 11 #[.agg #[.slice a N c, .slice ao n ec]] w fun e w' => e = .returned (.bool (decide (N ≤ 14) && decide (n ≤ 60))) ∧ Below w.heap.size w w' := by
  by_cases h1 : N ≤ 14
  · have h1i : (N : Int) ≤ 14 := by omega
    by_cases h2 : n ≤ 60
    · have h2i : (n : Int) ≤ 60 := by omega
      have e : (decide (N ≤ 14) && decide (n ≤ 60)) = true := by rw [decide_eq_true h1, decide_eq_true h2]; rfl
      rw [e]; clear e
      go_enter Try.func11, Try.ntmps11
      go_wp2_with fail
      go_ret
      exact ⟨rfl, bel_alloc _ _⟩
    · have h2i : ¬ (n : Int) ≤ 60 := by omega
      have h3i : decide ((n : Int) ≤ 60) = false := decide_eq_false h2i
      have e : (decide (N ≤ 14) && decide (n ≤ 60)) = false := by rw [decide_eq_false h2, Bool.and_false]
      rw [e]; clear e
      go_enter Try.func11, Try.ntmps11
      go_wp2_with fail
      go_ret
      exact ⟨rfl, bel_alloc _ _⟩
  · have h1i : ¬ (N : Int) ≤ 14 := by omega
    have h3i : decide ((N : Int) ≤ 14) = false := decide_eq_false h1i
    have e : (decide (N ≤ 14) && decide (n ≤ 60)) = false := by rw [decide_eq_false h1, Bool.false_and]
    rw [e]; clear e
    go_enter Try.func11, Try.ntmps11
    go_wp2_with fail
    go_ret
    exact ⟨rfl, bel_alloc _ _⟩

/-- an edge between nodes. -/
def okE (N : Nat) (x : Int × Int) : Prop := 0 ≤ x.1 ∧ x.1 < N ∧ 0 ≤ x.2 ∧ x.2 < N
theorem validG_iff (N : Nat) (es : List (Int × Int)) : validG N es = true ↔ N ≤ 1024 ∧ es.length ≤ 4096 ∧ ∀ x ∈ es, okE N x := by
  unfold validG okE
  simp only [Bool.and_eq_true, decide_eq_true_eq, List.all_eq_true, and_assoc]

set_option maxRecDepth 100000 in
set_option maxHeartbeats 4000000 in
theorem rValid_any (a : Option Addr) (N c : Nat) (ev : Value) (es : List (Int × Int)) (w : World) (hN : N ≤ 1000000000000) (hes : es.length ≤ 1000000000000) (hE : EdgesOf w.heap.size ev es w) :
    Calls Try.prog 20 #[.agg #[.slice a N c, ev]] w fun e w' => e = .returned (.bool (validG N es)) ∧ Below w.heap.size w w' := by
  obtain ⟨ao, ec, rfl, hE2⟩ := hE
  have HE := Lib.hid hE2
  have HV := Lib.hid (validG_iff N es)
  clear hE2
  by_cases h1 : N ≤ 1024
  case neg =>
    have h1i : (1024 : Int) < (N : Int) := by omega
    have HF : Hid (validG N es = false) := Lib.hid (by rw [← Bool.not_eq_true, HV.out]; exact fun h => h1 h.1)
    go_enter Try.func20, Try.ntmps20
    go_wp2_with fail
    go_ret
    exact ⟨by rw [HF.out]; rfl, bel_alloc _ _⟩
  case pos =>
    have h1i : ¬ (1024 : Int) < (N : Int) := by omega
    have h1j : (N : Int) ≤ 1024 := by omega
    by_cases h2 : es.length ≤ 4096
    case neg =>
      have h2i : (4096 : Int) < (es.length : Int) := by omega
      have HF : Hid (validG N es = false) := Lib.hid (by rw [← Bool.not_eq_true, HV.out]; exact fun h => h2 h.2.1)
      go_enter Try.func20, Try.ntmps20
      go_wp2_with fail
      go_ret
      exact ⟨by rw [HF.out]; rfl, bel_alloc _ _⟩
    case pos =>
      have h2i : ¬ (4096 : Int) < (es.length : Int) := by omega
      have h2j : (es.length : Int) ≤ 4096 := by omega
      have HB0 : Hid (Below w.heap.size w (w.alloc (.cells #[.slice a N c, .slice ao es.length ec] 25))) := Lib.hid (bel_alloc _ _)
      have hg1 : (w.alloc (.cells #[.slice a N c, .slice ao es.length ec] 25)).cell? ⟨w.heap.size, 1, none⟩ = some (.slice ao es.length ec) := cell_of_row _ _ 1 _ _ _ (World.alloc_heap_new w _)
      go_enter Try.func20, Try.ntmps20
      go_wp2_with fail
      go_loopw [4] (fun q wr => ∃ k : Nat, k ≤ es.length ∧ q = .int .i64 k ∧ Hid (∀ x ∈ es.take k, okE N x) ∧ Hid (Below (w.heap.size + 1) (w.alloc (.cells #[.slice a N c, .slice ao es.length ec] 25)) wr)) (fun q _ => es.length - (intOf q).toNat)
      case atStart => exact ⟨0, by omega, rfl, Lib.hid (by simp), Lib.hid (Below.refl _ _)⟩
      case round =>
        obtain ⟨k, hk, rfl, HO, HB⟩ := hrel
        have hsb := HB.out.size
        simp only [World.size_alloc] at hsb
        have hgr : wr.cell? ⟨w.heap.size, 1, none⟩ = some (.slice ao es.length ec) := (HB.out.cell (p := ⟨w.heap.size, 1, none⟩) (by show w.heap.size < _; omega)).trans hg1
        by_cases hlt : k < es.length
        · have hk0 : (0 : Int) ≤ (k : Int) := by omega
          have hk1 : (k : Int) < (es.length : Int) := by omega
          obtain ⟨b, off, rfl, hb, hc1, hc2⟩ := HE.out k es[k] (by simp [hlt])
          have hc1 := ((HB0.out.trans (HB.out.mono (by omega))).cell (p := ⟨b, off + k * 2, none⟩) hb).trans hc1
          have hc2 := ((HB0.out.trans (HB.out.mono (by omega))).cell (p := ⟨b, off + k * 2 + 1, none⟩) hb).trans hc2
          have HT : Hid (es.take (k + 1) = es.take k ++ [es[k]]) := Lib.hid (List.take_succ_eq_append_getElem hlt)
          have HBAD : Hid (¬ (0 ≤ es[k].1 ∧ es[k].1 < N ∧ 0 ≤ es[k].2 ∧ es[k].2 < N) → validG N es = false) := Lib.hid fun h => by
            rw [← Bool.not_eq_true, HV.out]
            exact fun h9 => h (h9.2.2 _ (List.getElem_mem hlt))
          have HGOOD : Hid (0 ≤ es[k].1 ∧ es[k].1 < N ∧ 0 ≤ es[k].2 ∧ es[k].2 < N → ∀ x ∈ es.take (k + 1), okE N x) := Lib.hid fun h x hx => by
            rw [HT.out] at hx
            rcases List.mem_append.1 hx with hx | hx
            · exact HO.out x hx
            · rw [List.mem_singleton] at hx; rw [hx]; exact h
          obtain ⟨x1, hx1⟩ : ∃ x, x = es[k].1 := ⟨_, rfl⟩
          obtain ⟨x2, hx2⟩ : ∃ x, x = es[k].2 := ⟨_, rfl⟩
          rw [← hx1] at hc1 HBAD HGOOD
          rw [← hx2] at hc2 HBAD HGOOD
          clear hx1 hx2 HT
          by_cases q1 : x1 < 0
          · have p1 : decide (x1 < 0) = true := decide_eq_true q1
            go_wp2_with fail
            go_ret
            exact ⟨by rw [HBAD.out (by rintro ⟨a1, a2, a3, a4⟩; omega)]; rfl, HB0.out.trans ((HB.out.mono (by simp)).alloc (by have := HB.out.size; simp at this; omega) _)⟩
          · have p1 : decide (x1 < 0) = false := decide_eq_false q1
            by_cases q2 : (N : Int) ≤ x1
            · have p2 : decide ((N : Int) ≤ x1) = true := decide_eq_true q2
              go_wp2_with fail
              go_ret
              exact ⟨by rw [HBAD.out (by rintro ⟨a1, a2, a3, a4⟩; omega)]; rfl, HB0.out.trans ((HB.out.mono (by simp)).alloc (by have := HB.out.size; simp at this; omega) _)⟩
            · have p2 : decide ((N : Int) ≤ x1) = false := decide_eq_false q2
              by_cases q3 : x2 < 0
              · have p3 : decide (x2 < 0) = true := decide_eq_true q3
                go_wp2_with fail
                go_ret
                exact ⟨by rw [HBAD.out (by rintro ⟨a1, a2, a3, a4⟩; omega)]; rfl, HB0.out.trans ((HB.out.mono (by simp)).alloc (by have := HB.out.size; simp at this; omega) _)⟩
              · have p3 : decide (x2 < 0) = false := decide_eq_false q3
                by_cases q4 : (N : Int) ≤ x2
                · have p4 : decide ((N : Int) ≤ x2) = true := decide_eq_true q4
                  go_wp2_with fail
                  go_ret
                  exact ⟨by rw [HBAD.out (by rintro ⟨a1, a2, a3, a4⟩; omega)]; rfl, HB0.out.trans ((HB.out.mono (by simp)).alloc (by have := HB.out.size; simp at this; omega) _)⟩
                · have p4 : decide ((N : Int) ≤ x2) = false := decide_eq_false q4
                  have HG := Lib.hid (HGOOD.out ⟨by omega, by omega, by omega, by omega⟩)
                  clear HBAD HGOOD
                  go_wp2_with fail
                  go_roundw
                  case rel => exact ⟨k + 1, by omega, by go_num, HG, Lib.hid (HB.out.alloc (by omega) _)⟩
                  case measure => simp [intOf]; omega
        · have hkk : k = es.length := by omega
          subst hkk
          have HT : Hid (validG N es = true) := Lib.hid (HV.out.2 ⟨h1, h2, by have := HO.out; rwa [List.take_length] at this⟩)
          go_wp2_with fail
          go_ret
          exact ⟨by rw [HT.out]; rfl, HB0.out.trans (HB.out.mono (by omega))⟩
end Go.Proofs.Ytlcgbkeggmaljaa
