/- Contracts of the reference's marks, list, Reach. -/
import Derived.Test.YtlcgbkeggmaljaaGRef2
namespace Go.Proofs.Ytlcgbkeggmaljaa
set_option linter.unusedVariables false
set_option linter.unusedSimpArgs false
open Go Go.RowKit

/-- how many flags of a block are false. -/
def cntF (W : World) (g : Nat) : Nat := match W.heap[g]? with
  | some (.cells cs _ _) => cs.toList.countP fun v => match v with | .bool false => true | _ => false
  | _ => 0
theorem cntF_flags {W : World} {g : Nat} {l : List Bool} (h : Flags W g l) : cntF W g = unseen l := by
  unfold cntF
  rw [show W.heap[g]? = _ from h]
  show (l.map Value.bool).countP _ = _
  rw [List.countP_map]
  unfold unseen
  rw [List.count_eq_countP]
  congr 1
  funext b
  cases b <;> rfl
theorem unseen_mark {l : List Bool} {i : Nat} (hi : i < l.length) (hb : bD l i = false) : unseen (l.set i true) + 1 = unseen l := by
  refine unseen_set l i ?_
  unfold bD at hb
  rw [List.getD_eq_getElem?_getD, List.getElem?_eq_getElem hi] at hb
  rw [List.getElem?_eq_getElem hi]
  exact congrArg some hb
def bval : Value → Nat
  | .bool true => 1
  | _ => 0

set_option maxRecDepth 100000 in
set_option maxHeartbeats 4000000 in
theorem marks_any (a : Option Addr) (N c : Nat) (ev lv : Value) (es : List (Int × Int)) (fn : List Nat) (w : World) (hv : validG N es = true) (hE : EdgesOf w.heap.size ev es w) (hll : fn.length ≤ 1000000000) (hL : RowOf intC w.heap.size lv (fn.map Int.ofNat) w) (hn : ∀ k ∈ fn, k < N) :
    Calls Try.prog 45 #[.agg #[.slice a N c, ev], lv] w fun e w' => ∃ g l, e = .returned (.slice (some ⟨g, 0, none⟩) N N) ∧ w.heap.size ≤ g ∧ Flags w' g l ∧ MarkS N es fn l ∧ Below w.heap.size w w' := by
  obtain ⟨hN, hes⟩ := validG_n hv
  have hmk := make_bools N (by omega)
  obtain ⟨la, lc, rfl, hL2⟩ := rowOf_open hL
  rw [List.length_map]
  obtain ⟨ao, ec, rfl, hE2⟩ := hE
  have HL := Lib.hid hL2
  have HE := Lib.hid hE2
  have HV := Lib.hid hv
  have HN := Lib.hid hn
  have HG0 : Hid (((w.alloc (.cells #[.slice a N c, .slice ao es.length ec] 25)).alloc (.cells (Array.replicate N (.bool false)) 4)).heap[w.heap.size]? = some (.cells #[.slice a N c, .slice ao es.length ec] 25 (0, 0))) := Lib.hid ((Below.heap_alloc _ _ _ (by simp)).trans (World.alloc_heap_new w _))
  have HB0 : Hid (Below w.heap.size w ((w.alloc (.cells #[.slice a N c, .slice ao es.length ec] 25)).alloc (.cells (Array.replicate N (.bool false)) 4))) := Lib.hid (((Below.refl _ _).alloc (Nat.le_refl _) _).alloc (by simp) _)
  have HF0 : Hid (Flags ((w.alloc (.cells #[.slice a N c, .slice ao es.length ec] 25)).alloc (.cells (Array.replicate N (.bool false)) 4)) (w.heap.size + 1) (List.replicate N false)) := Lib.hid (by
    have := World.alloc_heap_new (w.alloc (.cells #[.slice a N c, .slice ao es.length ec] 25)) (.cells (Array.replicate N (.bool false)) 4)
    rw [World.size_alloc] at this
    refine this.trans ?_
    simp)
  clear hL2 hL hE2 hv hn
  go_enter Try.func45, Try.ntmps45
  go_wp2_with fail
  clear hmk
  go_loopw [6] (fun q wr => ∃ (k : Nat) (l : List Bool), k ≤ fn.length ∧ q = .int .i64 k ∧ Hid (Flags wr (w.heap.size + 1) l ∧ l.length = N ∧ (∀ a ∈ fn.take k, bD l a = true) ∧ ∀ a, bD l a = true → a ∈ fn) ∧ Hid (wr.heap[w.heap.size]? = some (.cells #[.slice a N c, .slice ao es.length ec] 25 (0, 0))) ∧ Hid (Below w.heap.size w wr)) (fun q _ => fn.length - (intOf q).toNat)
  case atStart => exact ⟨0, _, by omega, rfl, Lib.hid ⟨HF0.out, by simp, by simp, fun a h => by unfold bD at h; rw [List.getD_eq_getElem?_getD, List.getElem?_replicate] at h; split at h <;> cases h⟩, HG0, HB0⟩
  case round =>
    clear HG0 HB0 HF0
    obtain ⟨k, l, hk, rfl, HF, HG, HB⟩ := hrel
    have hll2 := HF.out.2.1
    have hsb : w.heap.size + 1 < wr.heap.size := (Array.getElem?_eq_some_iff.1 HF.out.1).1
    by_cases hlt : k < fn.length
    · have hk0 : (0 : Int) ≤ (k : Int) := by omega
      have hk1 : (k : Int) < (fn.length : Int) := by omega
      obtain ⟨b, off, rfl, hb, hc1⟩ := HL.out k (Int.ofNat fn[k]) (by rw [List.getElem?_map, List.getElem?_eq_getElem hlt]; rfl)
      have hc1 : wr.cell? ⟨b, off + k, none⟩ = some (natC fn[k]) := (HB.out.cell (p := ⟨b, off + k, none⟩) hb).trans hc1
      have hnk := HN.out _ (List.getElem_mem hlt)
      have HT : Hid (fn.take (k + 1) = fn.take k ++ [fn[k]]) := Lib.hid (List.take_succ_eq_append_getElem hlt)
      have HM : Hid (fn[k] ∈ fn) := Lib.hid (List.getElem_mem hlt)
      generalize fn[k] = n at *
      have hn0 : (0 : Int) ≤ (n : Int) := by omega
      have hn1 : (n : Int) < (N : Int) := by omega
      have hcf := HF.out.1.cell n l[n] (by simp [hll2, hnk])
      have hff : wr.frozen? ⟨w.heap.size + 1, n, none⟩ = false := frozen_of_row _ _ n _ _ HF.out.1
      go_wp2_with fail
      go_roundw
      case rel =>
        refine ⟨k + 1, l.set n true, by omega, by go_num, Lib.hid ⟨HF.out.1.set n true, by rw [List.length_set]; exact hll2, fun x hx => ?_, fun x hx => ?_⟩, Lib.hid ((heap_setCell_other _ _ _ _ (fun e => by have e : w.heap.size = w.heap.size + 1 := e; omega)).trans HG.out), Lib.hid (HB.out.setCell (by exact Nat.le_succ _) _)⟩
        · rw [bD_set _ _ _ (by omega)]
          split
          · rfl
          · rw [HT.out] at hx
            rcases List.mem_append.1 hx with hx | hx
            · exact HF.out.2.2.1 x hx
            · rw [List.mem_singleton] at hx; omega
        · rw [bD_set _ _ _ (by omega)] at hx
          split at hx
          · rename_i e; rw [e]; exact HM.out
          · exact HF.out.2.2.2 x hx
      case measure => simp [intOf]; omega
    · have hkk : k = fn.length := by omega
      subst hkk
      have HF1 : Hid (Flags wr (w.heap.size + 1) l ∧ l.length = N ∧ (∀ a ∈ fn, bD l a = true) ∧ ∀ a, bD l a = true → ∃ b ∈ fn, Rch (sucs N es) b a) := Lib.hid ⟨HF.out.1, HF.out.2.1, by have := HF.out.2.2.1; rwa [List.take_length] at this, fun a ha => ⟨a, HF.out.2.2.2 a ha, .refl _⟩⟩
      clear HF hll2
      go_wp2_with fail
      obtain ⟨wo, rfl⟩ : ∃ wo : World, wo = wr := ⟨_, rfl⟩
      go_loopw [7] (fun q wr => ∃ (l : List Bool) (ch : Bool), q = .bool ch ∧ Hid (Flags wr (w.heap.size + 1) l ∧ l.length = N ∧ (∀ a ∈ fn, bD l a = true) ∧ ∀ a, bD l a = true → ∃ b ∈ fn, Rch (sucs N es) b a) ∧ Hid (ch = false → ∀ x ∈ es, bD l x.1.toNat = true → bD l x.2.toNat = true) ∧ Hid (wr.heap[w.heap.size]? = some (.cells #[.slice a N c, .slice ao es.length ec] 25 (0, 0))) ∧ Hid (Below w.heap.size w wr)) (fun q wr => 2 * cntF wr (w.heap.size + 1) + bval q)
      case atStart => exact ⟨l, true, rfl, HF1, Lib.hid (fun h => by cases h), HG, HB⟩
      case round =>
        clear HF1 HG HB hsb
        obtain ⟨l0, ch, rfl, HF, HC, HG, HB⟩ := hrel
        cases ch with
        | false =>
          have HMS := Lib.hid (mark_all HF.out.2.1 HV.out HF.out.2.2.2 HF.out.2.2.1 (HC.out rfl))
          go_wp2_with fail
          go_ret
          exact ⟨_, rfl, by omega, l0, HF.out.1, HMS.out, HB.out⟩
        | true =>
          have HU0 := Lib.hid (cntF_flags HF.out.1)
          go_wp2_with fail
          obtain ⟨wo, rfl⟩ : ∃ wo : World, wo = wr := ⟨_, rfl⟩
          go_loopw [7, 8] (fun q r wr => ∃ (k : Nat) (l : List Bool) (ch : Bool), k ≤ es.length ∧ r = .int .i64 k ∧ q = .bool ch ∧ Hid (Flags wr (w.heap.size + 1) l ∧ l.length = N ∧ (∀ a ∈ fn, bD l a = true) ∧ ∀ a, bD l a = true → ∃ b ∈ fn, Rch (sucs N es) b a) ∧ Hid (ch = false → ∀ x ∈ es.take k, bD l x.1.toNat = true → bD l x.2.toNat = true) ∧ Hid (unseen l + ch.toNat ≤ unseen l0) ∧ Hid (wr.heap[w.heap.size]? = some (.cells #[.slice a N c, .slice ao es.length ec] 25 (0, 0))) ∧ Hid (Below w.heap.size w wr)) (fun _ r _ => es.length - (intOf r).toNat)
          case atStart => exact ⟨0, l0, false, by omega, rfl, rfl, HF, Lib.hid (fun _ x hx => by simp at hx), Lib.hid (by simp), HG, HB⟩
          case round =>
            clear HF HC HG HB
            obtain ⟨k, l, ch, hk, rfl, rfl, HF, HC, HU, HG, HB⟩ := hrel
            have hll2 := HF.out.2.1
            have hsb : w.heap.size + 1 < wr.heap.size := (Array.getElem?_eq_some_iff.1 HF.out.1).1
            have hg1 : wr.cell? ⟨w.heap.size, 1, none⟩ = some (.slice ao es.length ec) := cell_of_row _ _ 1 _ _ _ HG.out
            by_cases hlt : k < es.length
            · have hk0 : (0 : Int) ≤ (k : Int) := by omega
              have hk1 : (k : Int) < (es.length : Int) := by omega
              obtain ⟨b, off, rfl, hb, hc1, hc2⟩ := HE.out k es[k] (by simp [hlt])
              have hc1 := (HB.out.cell (p := ⟨b, off + k * 2, none⟩) hb).trans hc1
              have hc2 := (HB.out.cell (p := ⟨b, off + k * 2 + 1, none⟩) hb).trans hc2
              have HT : Hid (es.take (k + 1) = es.take k ++ [es[k]]) := Lib.hid (List.take_succ_eq_append_getElem hlt)
              have hed := validG_edge HV.out (List.getElem_mem hlt)
              have HM : Hid (es[k] ∈ es) := Lib.hid (List.getElem_mem hlt)
              obtain ⟨⟨x1, x2⟩, hx⟩ : ∃ x, x = es[k] := ⟨_, rfl⟩
              rw [← hx] at hc1 hc2 hed HT HM
              clear hx
              obtain ⟨i, rfl⟩ : ∃ i : Nat, x1 = (i : Int) := ⟨x1.toNat, by simp at hed; omega⟩
              obtain ⟨j, rfl⟩ : ∃ j : Nat, x2 = (j : Int) := ⟨x2.toNat, by simp at hed; omega⟩
              simp only at hc1 hc2 hed
              obtain ⟨hi0, hi1, hj0, hj1⟩ := hed
              have hbi : l[i]? = some (bD l i) := by unfold bD; rw [List.getD_eq_getElem?_getD, List.getElem?_eq_getElem (by omega)]; rfl
              have hbj : l[j]? = some (bD l j) := by unfold bD; rw [List.getD_eq_getElem?_getD, List.getElem?_eq_getElem (by omega)]; rfl
              have hci := cellA (.cells #[.int .i64 (i : Int), .int .i64 (j : Int)] 39) (HF.out.1.cell i _ hbi)
              have hcj0 := HF.out.1.cell j _ hbj
              have hcj := cellA (.cells #[.int .i64 (i : Int), .int .i64 (j : Int)] 39) hcj0
              have hfj := frozA (.cells #[.int .i64 (i : Int), .int .i64 (j : Int)] 39) hcj0 (frozen_of_row _ _ j _ _ HF.out.1)
              have HFA : Hid (Flags (wr.alloc (.cells #[.int .i64 (i : Int), .int .i64 (j : Int)] 39)) (w.heap.size + 1) l) := Lib.hid ((Below.heap_alloc _ _ _ hsb).trans HF.out.1)
              have HGA : Hid ((wr.alloc (.cells #[.int .i64 (i : Int), .int .i64 (j : Int)] 39)).heap[w.heap.size]? = some (.cells #[.slice a N c, .slice (some ⟨b, off, none⟩) es.length ec] 25 (0, 0))) := Lib.hid ((Below.heap_alloc _ _ _ (by omega)).trans HG.out)
              have HBA : Hid (Below w.heap.size w (wr.alloc (.cells #[.int .i64 (i : Int), .int .i64 (j : Int)] 39))) := Lib.hid (HB.out.alloc (by omega) _)
              have HNX : Hid (bD l i = false ∨ bD l j = true → ch = false → ∀ x ∈ es.take (k + 1), bD l x.1.toNat = true → bD l x.2.toNat = true) := Lib.hid fun h hch x hx h1 => by
                rw [HT.out] at hx
                rcases List.mem_append.1 hx with hx | hx
                · exact HC.out hch x hx h1
                · rw [List.mem_singleton] at hx
                  subst hx
                  rcases h with h | h
                  · have h9 : bD l i = true := h1
                    rw [h] at h9; cases h9
                  · exact h
              have HBI : Hid (∀ b, bD l i = b → bD l i = b) := Lib.hid (fun _ h => h)
              clear hbi hbj hcj0
              cases hqi : bD l i with
              | false =>
                rw [hqi] at hci
                have HX := Lib.hid (HNX.out (.inl hqi))
                clear hqi HNX HBI
                go_wp2_with fail
                go_roundw
                case rel => exact ⟨k + 1, l, ch, by omega, by go_num, rfl, Lib.hid ⟨HFA.out, HF.out.2⟩, HX, HU, HGA, HBA⟩
                case measure => simp [intOf]; omega
              | true =>
                rw [hqi] at hci
                cases hqj : bD l j with
                | true =>
                  rw [hqj] at hcj
                  have HX := Lib.hid (HNX.out (.inr hqj))
                  clear hqi hqj HNX HBI
                  go_wp2_with fail
                  go_roundw
                  case rel => exact ⟨k + 1, l, ch, by omega, by go_num, rfl, Lib.hid ⟨HFA.out, HF.out.2⟩, HX, HU, HGA, HBA⟩
                  case measure => simp [intOf]; omega
                | false =>
                  rw [hqj] at hcj
                  have HQI := Lib.hid hqi
                  have HQJ := Lib.hid hqj
                  have hne1 : w.heap.size + 1 ≠ wr.heap.size := by omega
                  have hne2 : wr.heap.size ≠ w.heap.size + 1 := by omega
                  clear hqi hqj HNX HBI
                  go_wp2_with fail
                  go_roundw
                  case rel =>
                    refine ⟨k + 1, l.set j true, true, by omega, by go_num, rfl, Lib.hid ⟨(Below.heap_alloc _ _ _ (by rw [World.size_setCell]; exact hsb)).trans (HF.out.1.set j true), by rw [List.length_set]; exact hll2, fun x hx => ?_, fun x hx => ?_⟩, Lib.hid (fun h => by cases h), Lib.hid ?_, Lib.hid ((Below.heap_alloc _ _ _ (by rw [World.size_setCell]; omega)).trans ((heap_setCell_other _ _ _ _ (fun e => by have e : w.heap.size = w.heap.size + 1 := e; omega)).trans HG.out)), Lib.hid ((HB.out.setCell (by exact Nat.le_succ _) _).alloc (by rw [World.size_setCell]; omega) _)⟩
                    · rw [bD_set _ _ _ (by omega)]
                      split
                      · rfl
                      · exact HF.out.2.2.1 x hx
                    · rw [bD_set _ _ _ (by omega)] at hx
                      split at hx
                      · rename_i e
                        obtain ⟨b9, hb9, hr9⟩ := HF.out.2.2.2 i HQI.out
                        exact ⟨b9, hb9, hr9.trans (.step (mem_sucs.2 ⟨by omega, by omega, by rw [e]; exact HM.out⟩) (.refl _))⟩
                      · exact HF.out.2.2.2 x hx
                    · have h1 := unseen_mark (l := l) (i := j) (by omega) HQJ.out
                      have h2 := HU.out
                      show unseen (l.set j true) + 1 ≤ _
                      omega
                  case measure => simp [intOf]; omega
            · have hkk : k = es.length := by omega
              subst hkk
              have HC2 : Hid (ch = false → ∀ x ∈ es, bD l x.1.toNat = true → bD l x.2.toNat = true) := Lib.hid (by have := HC.out; rwa [List.take_length] at this)
              go_wp2_with fail
              go_roundw
              case rel => exact ⟨l, ch, rfl, HF, HC2, HG, HB⟩
              case measure =>
                have e1 := cntF_flags HF.out.1
                have e2 := HU0.out
                have e3 := HU.out
                simp only [bval] at *
                cases ch <;> simp at * <;> omega
end Go.Proofs.Ytlcgbkeggmaljaa
