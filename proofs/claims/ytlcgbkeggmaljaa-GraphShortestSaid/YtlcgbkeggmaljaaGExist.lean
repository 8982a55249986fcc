/- The graph's exist; slices.ContainsFunc at numbers. -/
import Derived.Test.YtlcgbkeggmaljaaGValid
namespace Go.Proofs.Ytlcgbkeggmaljaa
set_option linter.unusedVariables false
set_option linter.unusedSimpArgs false
open Go Go.RowKit

theorem rowOf_open {α : Type} {enc : α → Value} {B : Nat} {v : Value} {l : List α} {W : World} (h : RowOf enc B v l W) :
    ∃ ao cap, v = .slice ao l.length cap ∧ ∀ i x, l[i]? = some x → ∃ b off, ao = some ⟨b, off, none⟩ ∧ b < B ∧ W.cell? ⟨b, off + i, none⟩ = some (enc x) := by
  rcases h with ⟨rfl, a, c, rfl⟩ | ⟨b, off, cap, rfl, hb, h⟩
  · exact ⟨a, c, rfl, fun i x hx => by simp at hx⟩
  · exact ⟨_, cap, rfl, fun i x hx => ⟨b, off, rfl, hb, h i x hx⟩⟩
theorem rowOf_mk {α : Type} {enc : α → Value} {B : Nat} {l : List α} {W : World} {ao : Option Addr} {cap : Nat} (h : ∀ i x, l[i]? = some x → ∃ b off, ao = some ⟨b, off, none⟩ ∧ b < B ∧ W.cell? ⟨b, off + i, none⟩ = some (enc x)) : RowOf enc B (.slice ao l.length cap) l W := by
  cases l with
  | nil => exact .inl ⟨rfl, _, _, rfl⟩
  | cons y l =>
    obtain ⟨b, off, rfl, hb, h0⟩ := h 0 y rfl
    refine .inr ⟨b, off, cap, rfl, hb, fun i x hx => ?_⟩
    obtain ⟨b', off', e, _, h1⟩ := h i x hx
    cases e
    exact h1

/-- a predicate over numbers that leaves what was there. -/
def PredI (g : Nat) (lb : Array Value) (es : List (Int)) (p : Int → Bool) (w : World) : Prop :=
  ∀ (W : World) (x : Int), x ∈ es → Below w.heap.size w W → Calls Try.prog g (#[intC x] ++ lb) W fun e w' => e = .returned (.bool (p x)) ∧ Below w.heap.size w w'

set_option maxRecDepth 100000 in
set_option maxHeartbeats 2000000 in
theorem idx_int (g : Nat) (lb : Array Value) (eg : ∀ args w, (callFunc g args).run Try.prog w = .ok (.enter g args) w) (p : Int → Bool) (v : Value) (es : List (Int)) (w : World) (hes : es.length ≤ 1000000000) (hE : RowOf intC w.heap.size v es w) (hp : PredI g lb es p w) :
    Calls Try.prog 71 #[v, .func (.func g) #[] lb] w fun e w' => ∃ r : Int, e = .returned (.int .i64 r) ∧ (0 ≤ r ↔ es.any p = true) ∧ Below w.heap.size w w' := by
  obtain ⟨ao, ec, rfl, hE2⟩ := rowOf_open hE
  have HE := Lib.hid hE2
  have HP := Lib.hid hp
  clear hE hE2 hp
  go_enter Try.func71, Try.ntmps71
  go_wp2
  go_loopw [8] (fun s wr => ∃ k : Nat, k ≤ es.length ∧ s = .int .i64 k ∧ Hid (Below w.heap.size w wr) ∧ Hid (∀ x ∈ es.take k, p x = false)) (fun s _ => es.length - (intOf s).toNat)
  case atStart => exact ⟨0, by omega, rfl, Lib.hid (Below.refl _ _), Lib.hid (by simp)⟩
  case round =>
    obtain ⟨k, hk, rfl, HB, HA⟩ := hrel
    by_cases hlt : k < es.length
    · have hlt2 : (k : Int) < (es.length : Int) := by omega
      obtain ⟨b, off, rfl, hb, hc1⟩ := HE.out k es[k] (by simp [hlt])
      have hc1 := (HB.out.cell (p := ⟨b, off + k, none⟩) hb).trans hc1
      have HT : Hid (es.take (k + 1) = es.take k ++ [es[k]]) := Lib.hid (List.take_succ_eq_append_getElem hlt)
      have hcall := HP.out wr es[k] (List.getElem_mem hlt) HB.out
      have HM : Hid (es[k] ∈ es) := Lib.hid (List.getElem_mem hlt)
      generalize es[k] = x at *
      cases hq : p x with
      | true =>
        rw [hq] at hcall
        have HQ := Lib.hid hq
        clear hq
        go_wp2_with (go_at_fn g; refine hcall.mono ?_; rintro e w' ⟨rfl, hb'⟩)
        go_ret
        exact ⟨_, rfl, ⟨fun _ => by rw [List.any_eq_true]; exact ⟨x, HM.out, HQ.out⟩, fun _ => by omega⟩, hb'⟩
      | false =>
        rw [hq] at hcall
        have HQ := Lib.hid hq
        clear hq
        go_wp2_with (go_at_fn g; refine hcall.mono ?_; rintro e w' ⟨rfl, hb'⟩)
        go_roundw
        case rel =>
          refine ⟨k + 1, by omega, by go_num, Lib.hid hb', Lib.hid ?_⟩
          rw [HT.out]
          intro y hy
          rcases List.mem_append.1 hy with hy | hy
          · exact HA.out y hy
          · rw [List.mem_singleton] at hy; rw [hy]; exact HQ.out
        case measure => simp [intOf]; omega
    · have hkk : k = es.length := by omega
      subst hkk
      rw [List.take_length] at HA
      go_wp2
      go_ret
      refine ⟨-1, rfl, ⟨fun h => by omega, fun h => ?_⟩, HB.out⟩
      rw [List.any_eq_true] at h
      obtain ⟨x, hx, hpx⟩ := h
      rw [HA.out x hx] at hpx
      cases hpx

theorem has_int (g : Nat) (lb : Array Value) (eg : ∀ args w, (callFunc g args).run Try.prog w = .ok (.enter g args) w) (p : Int → Bool) (v : Value) (es : List (Int)) (w : World) (hes : es.length ≤ 1000000000) (hE : RowOf intC w.heap.size v es w) (hp : PredI g lb es p w) :
    Calls Try.prog 61 #[v, .func (.func g) #[] lb] w fun e w' => e = .returned (.bool (es.any p)) ∧ Below w.heap.size w w' := by
  have hi := idx_int g lb eg p v es w hes hE hp
  generalize es.any p = q at hi ⊢
  have HI := Lib.hid hi
  obtain ⟨ao, ec, rfl, _⟩ := rowOf_open hE
  clear hp eg hi
  go_enter Try.func61, Try.ntmps61
  go_wp2_with fail
  refine HI.out.mono ?_
  rintro e w' ⟨r, rfl, hr, hb⟩
  cases q with
  | true =>
    have h0 : 0 ≤ r := hr.2 rfl
    clear hr
    go_wp2
    go_ret
    exact ⟨rfl, hb⟩
  | false =>
    have h0 : ¬ 0 ≤ r := fun h => by have := hr.1 h; cases this
    have h1 : decide (0 ≤ r) = false := decide_eq_false h0
    have h2 : r < 0 := by omega
    clear hr
    go_wp2
    go_ret
    exact ⟨rfl, hb⟩


theorem exist1_any (a : Option Addr) (N c Bg : Nat) (i : Int) (w : World) (hc : w.cell? ⟨Bg, 0, none⟩ = some (.slice a N c)) :
    Calls Try.prog 62 #[.int .i64 i, .pointer (some ⟨Bg, 0, none⟩)] w fun e w' => e = .returned (.bool (!nodeB N i)) ∧ w = w' := by
  by_cases h1 : 0 ≤ i
  · by_cases h2 : i < N
    · have e : nodeB N i = true := by unfold nodeB; exact decide_eq_true ⟨h1, h2⟩
      rw [e]; clear e
      have h3 : ¬ i < 0 := by omega
      have h4 : ¬ (N : Int) ≤ i := by omega
      go_enter Try.func62, Try.ntmps62
      go_wp2
      go_ret
      exact ⟨rfl, rfl⟩
    · have e : nodeB N i = false := by unfold nodeB; exact decide_eq_false (fun h => h2 h.2)
      rw [e]; clear e
      have h3 : ¬ i < 0 := by omega
      have h4 : (N : Int) ≤ i := by omega
      go_enter Try.func62, Try.ntmps62
      go_wp2
      go_ret
      exact ⟨rfl, rfl⟩
  · have e : nodeB N i = false := by unfold nodeB; exact decide_eq_false (fun h => h1 h.1)
    rw [e]; clear e
    have h3 : i < 0 := by omega
    go_enter Try.func62, Try.ntmps62
    go_wp2
    go_ret
    exact ⟨rfl, rfl⟩

theorem any_not {α : Type} (l : List α) (p : α → Bool) : (l.any fun x => !p x) = !l.all p := by
  induction l with
  | nil => rfl
  | cons x l ih => simp [ih, Bool.not_and]

set_option maxRecDepth 100000 in
set_option maxHeartbeats 2000000 in
theorem exist_any (a : Option Addr) (N c : Nat) (ev lv : Value) (es : List (Int × Int)) (l : List Int) (w : World) (hes : es.length ≤ 1000000000000) (hE : EdgesOf w.heap.size ev es w) (hll : l.length ≤ 1000000000) (hL : RowOf intC w.heap.size lv l w) :
    Calls Try.prog 39 #[.agg #[.slice a N c, ev], lv] w fun e w' => e = .returned (.bool (validG N es && l.all (nodeB N))) ∧ Below w.heap.size w w' := by
  have hb1 : Below w.heap.size w (w.alloc (.cells #[.slice a N c, ev] 25)) := (Below.refl _ _).alloc (Nat.le_refl _) _
  have hv := Valid_any a N c ev es _ hes ((hE.below hb1 (Nat.le_refl _)).mono hb1.size)
  have hcg : (w.alloc (.cells #[.slice a N c, ev] 25)).cell? ⟨w.heap.size, 0, none⟩ = some (.slice a N c) := cell_of_row _ _ _ _ _ _ (World.alloc_heap_new w _)
  have hh : ∀ W, Below (w.heap.size + 1) (w.alloc (.cells #[.slice a N c, ev] 25)) W → Calls Try.prog 61 #[lv, .func (.func 62) #[] #[.pointer (some ⟨w.heap.size, 0, none⟩)]] W fun e w' => e = .returned (.bool (!l.all (nodeB N))) ∧ Below W.heap.size W w' := fun W hW => by
    rw [← any_not]
    have hs := hW.size
    simp at hs
    refine has_int 62 _ (enters_of Try.func62 (by kernel_rfl) rfl) (fun x => !nodeB N x) lv l W hll ((hL.below (hb1.trans (hW.mono (by omega))) (Nat.le_refl _)).mono (by omega)) fun W2 x hx hW2 => ?_
    refine (exist1_any a N c w.heap.size x W2 ?_).mono fun e w' h => ⟨h.1, h.2 ▸ hW2⟩
    exact (hW2.cell (p := ⟨w.heap.size, 0, none⟩) (by show w.heap.size < _; omega)).trans ((hW.cell (p := ⟨w.heap.size, 0, none⟩) (by show w.heap.size < _; omega)).trans hcg)
  obtain ⟨la, lc, rfl, _⟩ := rowOf_open hL
  have hE2 := hE
  obtain ⟨ao, ec, rfl, _⟩ := hE2
  generalize validG N es = b1 at *
  generalize l.all (nodeB N) = b2 at *
  have HV := Lib.hid hv
  have HH := Lib.hid hh
  have HB1 := Lib.hid hb1
  clear hv hh hb1 hcg hE hL
  cases b1 with
  | false =>
    go_enter Try.func39, Try.ntmps39
    go_wp2_with fail
    refine HV.out.mono ?_
    rintro e w' ⟨rfl, hb⟩
    go_wp2_with fail
    go_ret
    exact ⟨rfl, HB1.out.trans (hb.mono (by simp))⟩
  | true =>
    cases b2 with
    | false =>
      go_enter Try.func39, Try.ntmps39
      go_wp2_with fail
      refine HV.out.mono ?_
      rintro e w' ⟨rfl, hb⟩
      have HH2 := Lib.hid (HH.out w' (by simpa using hb))
      go_wp2_with fail
      refine HH2.out.mono ?_
      rintro e w2 ⟨rfl, hb2⟩
      go_wp2_with fail
      go_ret
      exact ⟨rfl, (HB1.out.trans (hb.mono (by simp))).trans (hb2.mono (by have := hb.size; simp at this; omega))⟩
    | true =>
      go_enter Try.func39, Try.ntmps39
      go_wp2_with fail
      refine HV.out.mono ?_
      rintro e w' ⟨rfl, hb⟩
      have HH2 := Lib.hid (HH.out w' (by simpa using hb))
      go_wp2_with fail
      refine HH2.out.mono ?_
      rintro e w2 ⟨rfl, hb2⟩
      go_wp2_with fail
      go_ret
      exact ⟨rfl, (HB1.out.trans (hb.mono (by simp))).trans (hb2.mono (by have := hb.size; simp at this; omega))⟩
end Go.Proofs.Ytlcgbkeggmaljaa
