/- Contracts of the graph's Valid; slices.ContainsFunc at edges. -/
import Derived.Test.YtlcgbkeggmaljaaGSucc
import Derived.Shelf.GgClosure.Gives
namespace Go.Proofs.Ytlcgbkeggmaljaa
set_option linter.unusedVariables false
set_option linter.unusedSimpArgs false
open Go Go.RowKit

/-- an edge as a value. -/
abbrev edgeV (x : Int × Int) : Value := .agg #[intC x.1, intC x.2]
/-- a predicate over edges that leaves what was there. -/
def PredE (g : Nat) (lb : Array Value) (es : List (Int × Int)) (p : Int × Int → Bool) (w : World) : Prop :=
  ∀ (W : World) (x : Int × Int), x ∈ es → Below w.heap.size w W → Calls Try.prog g (#[edgeV x] ++ lb) W fun e w' => e = .returned (.bool (p x)) ∧ Below w.heap.size w w'

set_option maxRecDepth 100000 in
set_option maxHeartbeats 2000000 in
theorem idx_edge (g : Nat) (lb : Array Value) (eg : ∀ args w, (callFunc g args).run Try.prog w = .ok (.enter g args) w) (p : Int × Int → Bool) (v : Value) (es : List (Int × Int)) (w : World) (hes : es.length ≤ 1000000000) (hE : EdgesOf w.heap.size v es w) (hp : PredE g lb es p w) :
    Calls Try.prog 59 #[v, .func (.func g) #[] lb] w fun e w' => ∃ r : Int, e = .returned (.int .i64 r) ∧ (0 ≤ r ↔ es.any p = true) ∧ Below w.heap.size w w' := by
  obtain ⟨ao, ec, rfl, hE⟩ := hE
  have HE := Lib.hid hE
  have HP := Lib.hid hp
  clear hE hp
  go_enter Try.func59, Try.ntmps59
  go_wp2
  go_loopw [8] (fun s wr => ∃ k : Nat, k ≤ es.length ∧ s = .int .i64 k ∧ Hid (Below w.heap.size w wr) ∧ Hid (∀ x ∈ es.take k, p x = false)) (fun s _ => es.length - (intOf s).toNat)
  case atStart => exact ⟨0, by omega, rfl, Lib.hid (Below.refl _ _), Lib.hid (by simp)⟩
  case round =>
    obtain ⟨k, hk, rfl, HB, HA⟩ := hrel
    by_cases hlt : k < es.length
    · have hlt2 : (k : Int) < (es.length : Int) := by omega
      obtain ⟨b, off, rfl, hb, hc1, hc2⟩ := HE.out k es[k] (by simp [hlt])
      have hc1 := (HB.out.cell (p := ⟨b, off + k * 2, none⟩) hb).trans hc1
      have hc2 := (HB.out.cell (p := ⟨b, off + k * 2 + 1, none⟩) hb).trans hc2
      have HT : Hid (es.take (k + 1) = es.take k ++ [es[k]]) := Lib.hid (List.take_succ_eq_append_getElem hlt)
      have hcall := HP.out wr es[k] (List.getElem_mem hlt) HB.out
      have HM : Hid (es[k] ∈ es) := Lib.hid (List.getElem_mem hlt)
      generalize es[k] = x at *
      cases hq : p x with
      | true =>
        rw [hq] at hcall
        have HQ := Lib.hid hq
        clear hq
        go_wp2_with (go_at_fn g; refine hcall.mono ?_; rintro e w' ⟨rfl, hb'⟩)
        go_ret
        exact ⟨_, rfl, ⟨fun _ => by rw [List.any_eq_true]; exact ⟨x, HM.out, HQ.out⟩, fun _ => by omega⟩, hb'⟩
      | false =>
        rw [hq] at hcall
        have HQ := Lib.hid hq
        clear hq
        go_wp2_with (go_at_fn g; refine hcall.mono ?_; rintro e w' ⟨rfl, hb'⟩)
        go_roundw
        case rel =>
          refine ⟨k + 1, by omega, by go_num, Lib.hid hb', Lib.hid ?_⟩
          rw [HT.out]
          intro y hy
          rcases List.mem_append.1 hy with hy | hy
          · exact HA.out y hy
          · rw [List.mem_singleton] at hy; rw [hy]; exact HQ.out
        case measure => simp [intOf]; omega
    · have hkk : k = es.length := by omega
      subst hkk
      rw [List.take_length] at HA
      go_wp2
      go_ret
      refine ⟨-1, rfl, ⟨fun h => by omega, fun h => ?_⟩, HB.out⟩
      rw [List.any_eq_true] at h
      obtain ⟨x, hx, hpx⟩ := h
      rw [HA.out x hx] at hpx
      cases hpx

theorem has_edge (g : Nat) (lb : Array Value) (eg : ∀ args w, (callFunc g args).run Try.prog w = .ok (.enter g args) w) (p : Int × Int → Bool) (v : Value) (es : List (Int × Int)) (w : World) (hes : es.length ≤ 1000000000) (hE : EdgesOf w.heap.size v es w) (hp : PredE g lb es p w) :
    Calls Try.prog 34 #[v, .func (.func g) #[] lb] w fun e w' => e = .returned (.bool (es.any p)) ∧ Below w.heap.size w w' := by
  have hi := idx_edge g lb eg p v es w hes hE hp
  generalize es.any p = q at hi ⊢
  have HI := Lib.hid hi
  obtain ⟨ao, ec, rfl, _⟩ := hE
  clear hp eg hi
  go_enter Try.func34, Try.ntmps34
  go_wp2_with fail
  refine HI.out.mono ?_
  rintro e w' ⟨r, rfl, hr, hb⟩
  cases q with
  | true =>
    have h0 : 0 ≤ r := hr.2 rfl
    clear hr
    go_wp2
    go_ret
    exact ⟨rfl, hb⟩
  | false =>
    have h0 : ¬ 0 ≤ r := fun h => by have := hr.1 h; cases this
    have h1 : decide (0 ≤ r) = false := decide_eq_false h0
    have h2 : r < 0 := by omega
    clear hr
    go_wp2
    go_ret
    exact ⟨rfl, hb⟩

/-- a node's number is one. -/
def nodeB (N : Nat) (i : Int) : Bool := decide (0 ≤ i ∧ i < N)
theorem valid1_any (a : Option Addr) (N c Bg : Nat) (i : Int) (w : World) (hc : w.cell? ⟨Bg, 0, none⟩ = some (.slice a N c)) :
    Calls Try.prog 51 #[.int .i64 i, .pointer (some ⟨Bg, 0, none⟩)] w fun e w' => e = .returned (.bool (nodeB N i)) ∧ w = w' := by
  by_cases h1 : 0 ≤ i
  · by_cases h2 : i < N
    · have e : nodeB N i = true := by unfold nodeB; exact decide_eq_true ⟨h1, h2⟩
      rw [e]; clear e
      go_enter Try.func51, Try.ntmps51
      go_wp2
      go_ret
      exact ⟨rfl, rfl⟩
    · have e : nodeB N i = false := by unfold nodeB; exact decide_eq_false (fun h => h2 h.2)
      rw [e]; clear e
      go_enter Try.func51, Try.ntmps51
      go_wp2
      go_ret
      exact ⟨rfl, rfl⟩
  · have e : nodeB N i = false := by unfold nodeB; exact decide_eq_false (fun h => h1 h.1)
    rw [e]; clear e
    go_enter Try.func51, Try.ntmps51
    go_wp2
    go_ret
    exact ⟨rfl, rfl⟩

theorem valid2_any (a : Option Addr) (N c Bg Bf : Nat) (x : Int × Int) (w : World) (hc : w.cell? ⟨Bg, 0, none⟩ = some (.slice a N c)) (hf : w.cell? ⟨Bf, 0, none⟩ = some (.func (.func 51) #[] #[.pointer (some ⟨Bg, 0, none⟩)])) :
    Calls Try.prog 52 #[edgeV x, .pointer (some ⟨Bf, 0, none⟩)] w fun e w' => e = .returned (.bool (!nodeB N x.1 || !nodeB N x.2)) ∧ Below w.heap.size w w' := by
  have h1 := valid1_any a N c Bg x.1 _ (cellA (.cells #[intC x.1, intC x.2] 39) hc)
  have h2 := valid1_any a N c Bg x.2 _ (cellA (.cells #[intC x.1, intC x.2] 39) hc)
  generalize nodeB N x.1 = b1 at *
  generalize nodeB N x.2 = b2 at *
  have H1 := Lib.hid h1
  have H2 := Lib.hid h2
  have hf2 := cellA (.cells #[.int .i64 x.1, .int .i64 x.2] 39) hf
  clear h1 h2
  cases b1 with
  | false =>
    go_enter Try.func52, Try.ntmps52
    go_wp2_with fail
    refine H1.out.mono ?_
    rintro e w' ⟨rfl, rfl⟩
    go_wp2_with fail
    go_ret
    exact ⟨rfl, (Below.refl _ _).alloc (Nat.le_refl _) _⟩
  | true =>
    cases b2 with
    | false =>
      go_enter Try.func52, Try.ntmps52
      go_wp2_with fail
      refine H1.out.mono ?_
      rintro e w' ⟨rfl, rfl⟩
      go_wp2_with fail
      refine H2.out.mono ?_
      rintro e w' ⟨rfl, rfl⟩
      go_wp2_with fail
      go_ret
      exact ⟨rfl, (Below.refl _ _).alloc (Nat.le_refl _) _⟩
    | true =>
      go_enter Try.func52, Try.ntmps52
      go_wp2_with fail
      refine H1.out.mono ?_
      rintro e w' ⟨rfl, rfl⟩
      go_wp2_with fail
      refine H2.out.mono ?_
      rintro e w' ⟨rfl, rfl⟩
      go_wp2_with fail
      go_ret
      exact ⟨rfl, (Below.refl _ _).alloc (Nat.le_refl _) _⟩

theorem validG_eq (N : Nat) (es : List (Int × Int)) : validG N es = (decide (N ≤ 1024) && (decide (es.length ≤ 4096) && !es.any fun x => !nodeB N x.1 || !nodeB N x.2)) := by
  unfold validG
  rw [Bool.and_assoc]
  congr 2
  rw [Bool.eq_iff_iff, List.all_eq_true, Bool.not_eq_true', ← Bool.not_eq_true, List.any_eq_true]
  unfold nodeB
  constructor
  · rintro h ⟨x, hx, hx2⟩
    have := h x hx
    simp at this hx2
    omega
  · intro h x hx
    have h2 : ¬ ((!decide (0 ≤ x.1 ∧ x.1 < (N : Int)) || !decide (0 ≤ x.2 ∧ x.2 < (N : Int))) = true) := fun h3 => h ⟨x, hx, h3⟩
    simp at h2 ⊢
    omega

set_option maxRecDepth 100000 in
set_option maxHeartbeats 2000000 in
theorem Valid_any (a : Option Addr) (N c : Nat) (ev : Value) (es : List (Int × Int)) (w : World) (hes : es.length ≤ 1000000000000) (hE : EdgesOf w.heap.size ev es w) :
    Calls Try.prog 19 #[.agg #[.slice a N c, ev]] w fun e w' => e = .returned (.bool (validG N es)) ∧ Below w.heap.size w w' := by
  rw [validG_eq]
  have hE2 := hE
  obtain ⟨ao, ec, rfl, _⟩ := hE2
  by_cases h1 : N ≤ 1024
  · rw [decide_eq_true h1, Bool.true_and]
    have h1i : (N : Int) ≤ 1024 := by omega
    by_cases h2 : es.length ≤ 4096
    · rw [decide_eq_true h2, Bool.true_and]
      have h2i : (es.length : Int) ≤ 4096 := by omega
      have hb : Below w.heap.size w ((w.alloc (.cells #[.slice a N c, .slice ao es.length ec] 25)).alloc (.cells #[.func (.func 51) #[] #[.pointer (some ⟨w.heap.size, 0, none⟩)]] 68)) := ((Below.refl _ w).alloc (Nat.le_refl _) _).alloc (by simp) _
      have hh := has_edge 52 #[.pointer (some ⟨w.heap.size + 1, 0, none⟩)] (enters_of Try.func52 (by kernel_rfl) rfl) (fun x => !nodeB N x.1 || !nodeB N x.2) (.slice ao es.length ec) es
        ((w.alloc (.cells #[.slice a N c, .slice ao es.length ec] 25)).alloc (.cells #[.func (.func 51) #[] #[.pointer (some ⟨w.heap.size, 0, none⟩)]] 68)) (by omega) ((hE.below hb (Nat.le_refl _)).mono (by simp; omega)) (fun W x hx hW => by
          refine (valid2_any a N c w.heap.size (w.heap.size + 1) x W ?_ ?_).mono fun e w' h => ⟨h.1, hW.trans (h.2.mono hW.size)⟩
          · exact (hW.cell (p := ⟨w.heap.size, 0, none⟩) (by show w.heap.size < _; simp; omega)).trans (cellA _ (cell_of_row _ _ _ _ _ _ (World.alloc_heap_new w _)))
          · have := World.alloc_heap_new (w.alloc (.cells #[.slice a N c, .slice ao es.length ec] 25)) (.cells #[.func (.func 51) #[] #[.pointer (some ⟨w.heap.size, 0, none⟩)]] 68)
            rw [World.size_alloc] at this
            exact (hW.cell (p := ⟨w.heap.size + 1, 0, none⟩) (by show w.heap.size + 1 < _; simp)).trans (cell_of_row _ _ _ _ _ _ this))
      generalize (es.any fun x => !nodeB N x.1 || !nodeB N x.2) = q at *
      have HH := Lib.hid hh
      have HB := Lib.hid hb
      clear hh hb hE
      go_enter Try.func19, Try.ntmps19
      go_wp2_with fail
      refine HH.out.mono ?_
      rintro e w' ⟨rfl, hb'⟩
      go_wp2_with fail
      go_ret
      exact ⟨rfl, HB.out.trans (hb'.mono (by simp; omega))⟩
    · have h2i : decide ((es.length : Int) ≤ 4096) = false := decide_eq_false (by omega)
      rw [decide_eq_false h2]
      go_enter Try.func19, Try.ntmps19
      go_wp2_with fail
      go_ret
      exact ⟨rfl, ((Below.refl _ _).alloc (Nat.le_refl _) _).alloc (by simp) _⟩
  · have h1i : decide ((N : Int) ≤ 1024) = false := decide_eq_false (by omega)
    rw [decide_eq_false h1]
    go_enter Try.func19, Try.ntmps19
    go_wp2_with fail
    go_ret
    exact ⟨rfl, ((Below.refl _ _).alloc (Nat.le_refl _) _).alloc (by simp) _⟩
end Go.Proofs.Ytlcgbkeggmaljaa
