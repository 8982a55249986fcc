/- Contracts of the reference's Has, Union, Same, and of the laws' few. -/
import Derived.Test.YtenfkejbndifdaaGreatDoorRJ
import Derived.Test.YtenfkejbndifdaaGreatDoorQE
import Derived.Test.YtenfkejbndifdaaGreatDoorQB
import Derived.Laws.AppendOwnNone
import Derived.Maps.AppendAt
namespace Go.Proofs.YtenfkejbndifdaaGreatDoor
set_option linter.unusedVariables false
set_option linter.unusedSimpArgs false
open Go Go.RowKit

def inR (p : Int) (x : Int × Int) : Bool := decide (max 0 x.1 ≤ p) && decide (p < min 1000000 x.2)
def fewB (l : List (List (Int × Int))) : Bool := (l.all fun s => decide (s.length ≤ 30)) && decide (l.length ≤ 6)
set_option maxRecDepth 100000 in
set_option maxHeartbeats 4000000 in
theorem SameS_any (v u : Value) (a b : List (Int × Int)) (w : World) (ha : a.length ≤ 1000000000) (hb : b.length ≤ 1000000000) (hE : SpansOf w.heap.size v a w) (hF : SpansOf w.heap.size u b w) :
    Calls Tryz.prog 91 #[v, u] w fun e w' => e = .returned (.bool (decide (a = b))) ∧ Below w.heap.size w w' := by
  obtain ⟨ao, ec, rfl, hE⟩ := hE
  obtain ⟨bo, fc, rfl, hF⟩ := hF
  have HE := Lib.hid hE
  have HF := Lib.hid hF
  clear hE hF
  obtain ⟨q, hq⟩ : ∃ q, decide (a = b) = q := ⟨_, rfl⟩
  rw [hq]
  have HQ := Lib.hid hq
  clear hq
  by_cases hl : a.length = b.length
  · have hl2 : ((a.length : Int) == (b.length : Int)) = true := by simp [hl]
    have hl3 : ((a.length : Int) != (b.length : Int)) = false := by simp [hl]
    have HLN := Lib.hid hl
    clear hl
    go_enter Tryz.func91, Tryz.ntmps91
    go_wp2_with fail
    go_loopw [5] (fun i wr => ∃ (k : Nat), k ≤ a.length ∧ i = .int .i64 k ∧ Hid (a.take k = b.take k) ∧ Hid (Below w.heap.size w wr)) (fun i _ => a.length - (intOf i).toNat)
    case atStart => exact ⟨0, by omega, rfl, Lib.hid (by simp), Lib.hid (Below.refl _ _)⟩
    case round =>
      obtain ⟨k, hk, rfl, HA, HB⟩ := hrel
      by_cases hlt : k < a.length
      · have hlt2 : k < b.length := by rw [← HLN.out]; exact hlt
        obtain ⟨b1, o1, rfl, hb1, hc1, hc2⟩ := HE.out k a[k] (by simp [hlt])
        obtain ⟨b2, o2, rfl, hb2, hd1, hd2⟩ := HF.out k b[k] (by simp [hlt2])
        have hc1 := (HB.out.cell (p := ⟨b1, o1 + k * 2, none⟩) hb1).trans hc1
        have hc2 := (HB.out.cell (p := ⟨b1, o1 + k * 2 + 1, none⟩) hb1).trans hc2
        have hd1 := (HB.out.cell (p := ⟨b2, o2 + k * 2, none⟩) hb2).trans hd1
        have hd2 := (HB.out.cell (p := ⟨b2, o2 + k * 2 + 1, none⟩) hb2).trans hd2
        have HT1 := Lib.hid (List.take_succ_eq_append_getElem hlt)
        have HT2 := Lib.hid (List.take_succ_eq_append_getElem hlt2)
        have HG : Hid (a = b → a[k] = b[k]) := Lib.hid (fun h => by subst h; rfl)
        obtain ⟨⟨x1, x2⟩, hx⟩ : ∃ x, x = a[k] := ⟨_, rfl⟩
        obtain ⟨⟨y1, y2⟩, hy⟩ : ∃ y, y = b[k] := ⟨_, rfl⟩
        rw [← hx] at hc1 hc2 HT1 HG
        rw [← hy] at hd1 hd2 HT2 HG
        clear hx hy
        simp only at hc1 hc2 hd1 hd2
        by_cases h1 : x1 = y1 ∧ x2 = y2
        · obtain ⟨rfl, rfl⟩ := h1
          go_wp2_with fail
          try go_region
          all_goals
            go_wp2_with fail
            go_roundw
            case rel => exact ⟨k + 1, by omega, by go_num, Lib.hid (by rw [HT1.out, HT2.out, HA.out]), by first | exact HB | exact Lib.hid HB.out.drew | (refine Lib.hid ?_; have := HB.out; exact this)⟩
            case measure => simp [intOf]; omega
        · have HNE : Hid (q = false) := Lib.hid (by
            rw [← HQ.out]
            exact decide_eq_false fun h => h1 (by have := HG.out h; exact Prod.mk.inj this))
          rcases Classical.not_and_iff_not_or_not.1 h1 with h2 | h2
          all_goals
            clear h1
            go_wp2_with fail
            try go_region
            all_goals
              go_wp2_with fail
              go_ret
              exact ⟨by rw [HNE.out]; rfl, by first | exact HB.out | exact HB.out.drew⟩
      · have hkk : k = a.length := by omega
        subst hkk
        have HAB : Hid (q = true) := Lib.hid (by
          rw [← HQ.out]
          have := HA.out
          rw [List.take_length, HLN.out, List.take_length] at this
          exact decide_eq_true this)
        go_wp2_with fail
        go_ret
        exact ⟨by rw [HAB.out]; rfl, HB.out⟩
  · have hl2 : ((a.length : Int) == (b.length : Int)) = false := by simp; omega
    have hl3 : ((a.length : Int) != (b.length : Int)) = true := by simp; omega
    have HNE : Hid (q = false) := Lib.hid (by rw [← HQ.out]; exact decide_eq_false fun h => hl (by rw [h]))
    clear hl
    go_enter Tryz.func91, Tryz.ntmps91
    go_wp2_with fail
    go_ret
    exact ⟨by rw [HNE.out]; rfl, Below.refl _ _⟩
end Go.Proofs.YtenfkejbndifdaaGreatDoor
