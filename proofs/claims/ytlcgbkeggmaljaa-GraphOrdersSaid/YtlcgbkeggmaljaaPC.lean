/- Contracts of the graph's Valid; slices.ContainsFunc at edges. Contract of slices.Repeat at one number; the graph's exist. The graph's exist; slices.ContainsFunc at numbers. Contract of the graph's Reverse. Contract of the graph's Reach: the visit of a node. Contract of the graph's Reach. A slice of the call's own that may begin behind its block's head: cut and appended to. Ranges over a function inside a loop: the marks that pile up, and a loop by a count of rounds. Contract of the graph's distances. Contract of the graph's descend. Contract of the graph's Path. -/
import Derived.Test.YtlcgbkeggmaljaaPA
import Derived.Shelf.GgClosure.Gives
import Derived.Laws.CopyOwn
import Derived.Deep.RegionLaw
import Derived.IntWalk
import Derived.Test.YtlcgbkeggmaljaaPB
import Derived.Maps.Range
import Derived.ArgAppend
import Derived.RangeFuncLeaves
namespace Go.Proofs.Ytlcgbkeggmaljaa
set_option linter.unusedVariables false
set_option linter.unusedSimpArgs false
open Go Go.RowKit

/-- an edge as a value. -/
abbrev edgeV (x : Int × Int) : Value := .agg #[intC x.1, intC x.2]
/-- a predicate over edges that leaves what was there. -/
def PredE (g : Nat) (lb : Array Value) (es : List (Int × Int)) (p : Int × Int → Bool) (w : World) : Prop :=
  ∀ (W : World) (x : Int × Int), x ∈ es → Below w.heap.size w W → Calls Try.prog g (#[edgeV x] ++ lb) W fun e w' => e = .returned (.bool (p x)) ∧ Below w.heap.size w w'

set_option maxRecDepth 100000 in
set_option maxHeartbeats 2000000 in
theorem idx_edge (g : Nat) (lb : Array Value) (eg : ∀ args w, (callFunc g args).run Try.prog w = .ok (.enter g args) w) (p : Int × Int → Bool) (v : Value) (es : List (Int × Int)) (w : World) (hes : es.length ≤ 1000000000) (hE : EdgesOf w.heap.size v es w) (hp : PredE g lb es p w) :
    Calls Try.prog 59 #[v, .func (.func g) #[] lb] w fun e w' => ∃ r : Int, e = .returned (.int .i64 r) ∧ (0 ≤ r ↔ es.any p = true) ∧ Below w.heap.size w w' := by
  obtain ⟨ao, ec, rfl, hE⟩ := hE
  have HE := Lib.hid hE
  have HP := Lib.hid hp
  clear hE hp
  go_enter Try.func59, Try.ntmps59
  go_wp2
  go_loopw [8] (fun s wr => ∃ k : Nat, k ≤ es.length ∧ s = .int .i64 k ∧ Hid (Below w.heap.size w wr) ∧ Hid (∀ x ∈ es.take k, p x = false)) (fun s _ => es.length - (intOf s).toNat)
  case atStart => exact ⟨0, by omega, rfl, Lib.hid (Below.refl _ _), Lib.hid (by simp)⟩
  case round =>
    obtain ⟨k, hk, rfl, HB, HA⟩ := hrel
    by_cases hlt : k < es.length
    · have hlt2 : (k : Int) < (es.length : Int) := by omega
      obtain ⟨b, off, rfl, hb, hc1, hc2⟩ := HE.out k es[k] (by simp [hlt])
      have hc1 := (HB.out.cell (p := ⟨b, off + k * 2, none⟩) hb).trans hc1
      have hc2 := (HB.out.cell (p := ⟨b, off + k * 2 + 1, none⟩) hb).trans hc2
      have HT : Hid (es.take (k + 1) = es.take k ++ [es[k]]) := Lib.hid (List.take_succ_eq_append_getElem hlt)
      have hcall := HP.out wr es[k] (List.getElem_mem hlt) HB.out
      have HM : Hid (es[k] ∈ es) := Lib.hid (List.getElem_mem hlt)
      generalize es[k] = x at *
      cases hq : p x with
      | true =>
        rw [hq] at hcall
        have HQ := Lib.hid hq
        clear hq
        go_wp2_with (go_at_fn g; refine hcall.mono ?_; rintro e w' ⟨rfl, hb'⟩)
        go_ret
        exact ⟨_, rfl, ⟨fun _ => by rw [List.any_eq_true]; exact ⟨x, HM.out, HQ.out⟩, fun _ => by omega⟩, hb'⟩
      | false =>
        rw [hq] at hcall
        have HQ := Lib.hid hq
        clear hq
        go_wp2_with (go_at_fn g; refine hcall.mono ?_; rintro e w' ⟨rfl, hb'⟩)
        go_roundw
        case rel =>
          refine ⟨k + 1, by omega, by go_num, Lib.hid hb', Lib.hid ?_⟩
          rw [HT.out]
          intro y hy
          rcases List.mem_append.1 hy with hy | hy
          · exact HA.out y hy
          · rw [List.mem_singleton] at hy; rw [hy]; exact HQ.out
        case measure => simp [intOf]; omega
    · have hkk : k = es.length := by omega
      subst hkk
      rw [List.take_length] at HA
      go_wp2
      go_ret
      refine ⟨-1, rfl, ⟨fun h => by omega, fun h => ?_⟩, HB.out⟩
      rw [List.any_eq_true] at h
      obtain ⟨x, hx, hpx⟩ := h
      rw [HA.out x hx] at hpx
      cases hpx

theorem has_edge (g : Nat) (lb : Array Value) (eg : ∀ args w, (callFunc g args).run Try.prog w = .ok (.enter g args) w) (p : Int × Int → Bool) (v : Value) (es : List (Int × Int)) (w : World) (hes : es.length ≤ 1000000000) (hE : EdgesOf w.heap.size v es w) (hp : PredE g lb es p w) :
    Calls Try.prog 34 #[v, .func (.func g) #[] lb] w fun e w' => e = .returned (.bool (es.any p)) ∧ Below w.heap.size w w' := by
  have hi := idx_edge g lb eg p v es w hes hE hp
  generalize es.any p = q at hi ⊢
  have HI := Lib.hid hi
  obtain ⟨ao, ec, rfl, _⟩ := hE
  clear hp eg hi
  go_enter Try.func34, Try.ntmps34
  go_wp2_with fail
  refine HI.out.mono ?_
  rintro e w' ⟨r, rfl, hr, hb⟩
  cases q with
  | true =>
    have h0 : 0 ≤ r := hr.2 rfl
    clear hr
    go_wp2
    go_ret
    exact ⟨rfl, hb⟩
  | false =>
    have h0 : ¬ 0 ≤ r := fun h => by have := hr.1 h; cases this
    have h1 : decide (0 ≤ r) = false := decide_eq_false h0
    have h2 : r < 0 := by omega
    clear hr
    go_wp2
    go_ret
    exact ⟨rfl, hb⟩

/-- a node's number is one. -/
def nodeB (N : Nat) (i : Int) : Bool := decide (0 ≤ i ∧ i < N)
theorem valid1_any (a : Option Addr) (N c Bg : Nat) (i : Int) (w : World) (hc : w.cell? ⟨Bg, 0, none⟩ = some (.slice a N c)) :
    Calls Try.prog 51 #[.int .i64 i, .pointer (some ⟨Bg, 0, none⟩)] w fun e w' => e = .returned (.bool (nodeB N i)) ∧ w = w' := by
  by_cases h1 : 0 ≤ i
  · by_cases h2 : i < N
    · have e : nodeB N i = true := by unfold nodeB; exact decide_eq_true ⟨h1, h2⟩
      rw [e]; clear e
      go_enter Try.func51, Try.ntmps51
      go_wp2
      go_ret
      exact ⟨rfl, rfl⟩
    · have e : nodeB N i = false := by unfold nodeB; exact decide_eq_false (fun h => h2 h.2)
      rw [e]; clear e
      go_enter Try.func51, Try.ntmps51
      go_wp2
      go_ret
      exact ⟨rfl, rfl⟩
  · have e : nodeB N i = false := by unfold nodeB; exact decide_eq_false (fun h => h1 h.1)
    rw [e]; clear e
    go_enter Try.func51, Try.ntmps51
    go_wp2
    go_ret
    exact ⟨rfl, rfl⟩

theorem valid2_any (a : Option Addr) (N c Bg Bf : Nat) (x : Int × Int) (w : World) (hc : w.cell? ⟨Bg, 0, none⟩ = some (.slice a N c)) (hf : w.cell? ⟨Bf, 0, none⟩ = some (.func (.func 51) #[] #[.pointer (some ⟨Bg, 0, none⟩)])) :
    Calls Try.prog 52 #[edgeV x, .pointer (some ⟨Bf, 0, none⟩)] w fun e w' => e = .returned (.bool (!nodeB N x.1 || !nodeB N x.2)) ∧ Below w.heap.size w w' := by
  have h1 := valid1_any a N c Bg x.1 _ (cellA (.cells #[intC x.1, intC x.2] 39) hc)
  have h2 := valid1_any a N c Bg x.2 _ (cellA (.cells #[intC x.1, intC x.2] 39) hc)
  generalize nodeB N x.1 = b1 at *
  generalize nodeB N x.2 = b2 at *
  have H1 := Lib.hid h1
  have H2 := Lib.hid h2
  have hf2 := cellA (.cells #[.int .i64 x.1, .int .i64 x.2] 39) hf
  clear h1 h2
  cases b1 with
  | false =>
    go_enter Try.func52, Try.ntmps52
    go_wp2_with fail
    refine H1.out.mono ?_
    rintro e w' ⟨rfl, rfl⟩
    go_wp2_with fail
    go_ret
    exact ⟨rfl, (Below.refl _ _).alloc (Nat.le_refl _) _⟩
  | true =>
    cases b2 with
    | false =>
      go_enter Try.func52, Try.ntmps52
      go_wp2_with fail
      refine H1.out.mono ?_
      rintro e w' ⟨rfl, rfl⟩
      go_wp2_with fail
      refine H2.out.mono ?_
      rintro e w' ⟨rfl, rfl⟩
      go_wp2_with fail
      go_ret
      exact ⟨rfl, (Below.refl _ _).alloc (Nat.le_refl _) _⟩
    | true =>
      go_enter Try.func52, Try.ntmps52
      go_wp2_with fail
      refine H1.out.mono ?_
      rintro e w' ⟨rfl, rfl⟩
      go_wp2_with fail
      refine H2.out.mono ?_
      rintro e w' ⟨rfl, rfl⟩
      go_wp2_with fail
      go_ret
      exact ⟨rfl, (Below.refl _ _).alloc (Nat.le_refl _) _⟩

theorem validG_eq (N : Nat) (es : List (Int × Int)) : validG N es = (decide (N ≤ 1024) && (decide (es.length ≤ 4096) && !es.any fun x => !nodeB N x.1 || !nodeB N x.2)) := by
  unfold validG
  rw [Bool.and_assoc]
  congr 2
  rw [Bool.eq_iff_iff, List.all_eq_true, Bool.not_eq_true', ← Bool.not_eq_true, List.any_eq_true]
  unfold nodeB
  constructor
  · rintro h ⟨x, hx, hx2⟩
    have := h x hx
    simp at this hx2
    omega
  · intro h x hx
    have h2 : ¬ ((!decide (0 ≤ x.1 ∧ x.1 < (N : Int)) || !decide (0 ≤ x.2 ∧ x.2 < (N : Int))) = true) := fun h3 => h ⟨x, hx, h3⟩
    simp at h2 ⊢
    omega

set_option maxRecDepth 100000 in
set_option maxHeartbeats 2000000 in
theorem Valid_any (a : Option Addr) (N c : Nat) (ev : Value) (es : List (Int × Int)) (w : World) (hes : es.length ≤ 1000000000000) (hE : EdgesOf w.heap.size ev es w) :
    Calls Try.prog 19 #[.agg #[.slice a N c, ev]] w fun e w' => e = .returned (.bool (validG N es)) ∧ Below w.heap.size w w' := by
  rw [validG_eq]
  have hE2 := hE
  obtain ⟨ao, ec, rfl, _⟩ := hE2
  by_cases h1 : N ≤ 1024
  · rw [decide_eq_true h1, Bool.true_and]
    have h1i : (N : Int) ≤ 1024 := by omega
    by_cases h2 : es.length ≤ 4096
    · rw [decide_eq_true h2, Bool.true_and]
      have h2i : (es.length : Int) ≤ 4096 := by omega
      have hb : Below w.heap.size w ((w.alloc (.cells #[.slice a N c, .slice ao es.length ec] 25)).alloc (.cells #[.func (.func 51) #[] #[.pointer (some ⟨w.heap.size, 0, none⟩)]] 68)) := ((Below.refl _ w).alloc (Nat.le_refl _) _).alloc (by simp) _
      have hh := has_edge 52 #[.pointer (some ⟨w.heap.size + 1, 0, none⟩)] (enters_of Try.func52 (by kernel_rfl) rfl) (fun x => !nodeB N x.1 || !nodeB N x.2) (.slice ao es.length ec) es
        ((w.alloc (.cells #[.slice a N c, .slice ao es.length ec] 25)).alloc (.cells #[.func (.func 51) #[] #[.pointer (some ⟨w.heap.size, 0, none⟩)]] 68)) (by omega) ((hE.below hb (Nat.le_refl _)).mono (by simp; omega)) (fun W x hx hW => by
          refine (valid2_any a N c w.heap.size (w.heap.size + 1) x W ?_ ?_).mono fun e w' h => ⟨h.1, hW.trans (h.2.mono hW.size)⟩
          · exact (hW.cell (p := ⟨w.heap.size, 0, none⟩) (by show w.heap.size < _; simp; omega)).trans (cellA _ (cell_of_row _ _ _ _ _ _ (World.alloc_heap_new w _)))
          · have := World.alloc_heap_new (w.alloc (.cells #[.slice a N c, .slice ao es.length ec] 25)) (.cells #[.func (.func 51) #[] #[.pointer (some ⟨w.heap.size, 0, none⟩)]] 68)
            rw [World.size_alloc] at this
            exact (hW.cell (p := ⟨w.heap.size + 1, 0, none⟩) (by show w.heap.size + 1 < _; simp)).trans (cell_of_row _ _ _ _ _ _ this))
      generalize (es.any fun x => !nodeB N x.1 || !nodeB N x.2) = q at *
      have HH := Lib.hid hh
      have HB := Lib.hid hb
      clear hh hb hE
      go_enter Try.func19, Try.ntmps19
      go_wp2_with fail
      refine HH.out.mono ?_
      rintro e w' ⟨rfl, hb'⟩
      go_wp2_with fail
      go_ret
      exact ⟨rfl, HB.out.trans (hb'.mono (by simp; omega))⟩
    · have h2i : decide ((es.length : Int) ≤ 4096) = false := decide_eq_false (by omega)
      rw [decide_eq_false h2]
      go_enter Try.func19, Try.ntmps19
      go_wp2_with fail
      go_ret
      exact ⟨rfl, ((Below.refl _ _).alloc (Nat.le_refl _) _).alloc (by simp) _⟩
  · have h1i : decide ((N : Int) ≤ 1024) = false := decide_eq_false (by omega)
    rw [decide_eq_false h1]
    go_enter Try.func19, Try.ntmps19
    go_wp2_with fail
    go_ret
    exact ⟨rfl, ((Below.refl _ _).alloc (Nat.le_refl _) _).alloc (by simp) _⟩
end Go.Proofs.Ytlcgbkeggmaljaa

namespace Go.Proofs.Ytlcgbkeggmaljaa
set_option linter.unusedVariables false
set_option linter.unusedSimpArgs false
open Go Go.RowKit

theorem splice_rep (c N m : Nat) (x z : Value) (h : c + m ≤ N) : splice (List.replicate c x ++ List.replicate (N - c) z) c (List.replicate m x) = List.replicate (c + m) x ++ List.replicate (N - (c + m)) z := by
  unfold splice
  rw [List.take_append_of_le_length (by simp), List.take_of_length_le (by simp), List.length_replicate, List.drop_append, List.drop_eq_nil_of_le (by simp), List.nil_append, List.drop_replicate, List.length_replicate, ← List.append_assoc, List.replicate_append_replicate]
  congr 2
  omega

set_option maxRecDepth 100000 in
set_option maxHeartbeats 4000000 in
theorem Repeat_any (b c N : Nat) (x : Int) (w : World) (hN : N ≤ 1000000) (hx : w.cell? ⟨b, 0, none⟩ = some (intC x)) (hb : b < w.heap.size) :
    Calls Try.prog 65 #[.slice (some ⟨b, 0, none⟩) 1 c, .int .i64 (N : Int)] w fun e w' => ∃ g, e = .returned (.slice (some ⟨g, 0, none⟩) N N) ∧ w.heap.size ≤ g ∧ w'.heap[g]? = some (.cells (List.replicate N (intC x)).toArray 3 (0, 0)) ∧ Below w.heap.size w w' := by
  have hmk := make_ints N (by omega)
  have hmul := Try.bits_Mul 1 N (by omega) (by omega) w
  have e1 : 1 * N / 18446744073709551616 = 0 := by omega
  have e2 : 1 * N % 18446744073709551616 = N := by omega
  rw [e1, e2] at hmul
  have HM := Lib.hid hmul
  clear hmul e1 e2
  have h0 : (0 : Int) ≤ (N : Int) := by omega
  have h1 : (N : Int) ≤ 1000000 := by omega
  go_enter Try.func65, Try.ntmps65
  go_wp2_with fail
  refine HM.out.mono ?_
  rintro e w' ⟨rfl, rfl⟩
  have hcells : ∀ j v, (List.replicate (Nat.min 1 N) (intC x))[j]? = some v → (w'.alloc (.cells (Array.replicate N (.int .i64 0)) 3)).cell? ((⟨b, 0, none⟩ : Addr).add j) = some v := fun j v hv => by
    have hj : j < Nat.min 1 N := by have := (List.getElem?_eq_some_iff.1 hv).1; simpa using this
    have hv2 : intC x = v := by have := List.getElem?_eq_some_iff.1 hv; obtain ⟨_, h⟩ := this; simpa using h
    have hj0 : j = 0 := by have : Nat.min 1 N ≤ 1 := Nat.min_le_left 1 N; omega
    subst hj0
    rw [← hv2]
    exact cellA _ hx
  have HC := Lib.hid hcells
  clear hcells
  have hbw : Below w'.heap.size w' (w'.alloc (.cells (Array.replicate N (.int .i64 0)) 3)) := (Below.refl _ _).alloc (Nat.le_refl _) _
  have HBW := Lib.hid hbw
  clear hbw
  go_wp2_with (with_reducible refine wpList_copy_splice rfl (.tmp 31) (.tmp 32) 26 26 rfl 3 Try.underlying26 (by kernel_rfl) (some ⟨w'.heap.size, 0, none⟩) (some ⟨b, 0, none⟩) N N 1 c rfl rfl w'.heap.size 0 (List.replicate N (.int .i64 0)) 3 (by have := World.alloc_heap_new w' (.cells (Array.replicate N (.int .i64 0)) 3); simpa using this) (List.replicate (Nat.min 1 N) (intC x)) (by simp) (fun _ => ⟨rfl, _, rfl, HC.out⟩) (by simp; exact Nat.min_le_right 1 N) (by simp [Value.oneCell']) w'.heap.size w' HBW.out (Nat.le_refl _) ?_; intro w2 HG2 hb2)
  have HG3 : Hid (w2.heap[w'.heap.size]? = some (.cells (List.replicate (Nat.min 1 N) (intC x) ++ List.replicate (N - Nat.min 1 N) (intC 0)).toArray 3 (0, 0))) := Lib.hid (by
    have := HG2.out
    have e := splice_rep 0 N (Nat.min 1 N) (intC x) (intC 0) (by have : Nat.min 1 N ≤ N := Nat.min_le_right 1 N; omega)
    simp only [List.replicate_zero, List.nil_append, Nat.zero_add, Nat.sub_zero] at e
    rw [e] at this
    exact this)
  have HB2 := Lib.hid hb2
  clear HG2 hb2 hmk HM HC HBW
  have hm1 : Nat.min 1 N ≤ N := Nat.min_le_right 1 N
  have hm2 : 0 < N → 0 < Nat.min 1 N := fun h => by rw [show Nat.min 1 N = 1 from Nat.min_eq_left h]; omega
  generalize Nat.min 1 N = c1 at *
  have HM2 := Lib.hid hm2
  clear hm2
  go_loopw [8] (fun s wr => ∃ k : Nat, k ≤ N ∧ s = .int .i64 k ∧ Hid (0 < N → 0 < k) ∧ Hid (wr.heap[w'.heap.size]? = some (.cells (List.replicate k (intC x) ++ List.replicate (N - k) (intC 0)).toArray 3 (0, 0))) ∧ Hid (Below w'.heap.size w' wr)) (fun s _ => N - (intOf s).toNat)
  case atStart => exact ⟨c1, hm1, rfl, HM2, HG3, HB2⟩
  case round =>
    clear HM2 HG3 HB2 hm1
    obtain ⟨k, hk, rfl, HP, HG, HB⟩ := hrel
    by_cases hlt : k < N
    · have hlt2 : (k : Int) < (N : Int) := by omega
      have hle2 : (k : Int) ≤ (N : Int) := by omega
      have hk0 : (0 : Int) ≤ (k : Int) := by omega
      have hkne : ¬ N = k := by omega
      have hpos : 0 < k := HP.out (by omega)
      have HC : Hid (∀ j v, (List.replicate (Nat.min k (N - k)) (intC x))[j]? = some v → wr.drew.cell? ((⟨w'.heap.size, 0, none⟩ : Addr).add j) = some v) := Lib.hid (fun j v hv => by
        have hj : j < Nat.min k (N - k) := by have := (List.getElem?_eq_some_iff.1 hv).1; simpa using this
        have hj2 : j < k := by have : Nat.min k (N - k) ≤ k := Nat.min_le_left _ _; omega
        have hv2 : intC x = v := by have := List.getElem?_eq_some_iff.1 hv; obtain ⟨_, h⟩ := this; simpa using h
        rw [← hv2]
        have e : ((⟨w'.heap.size, 0, none⟩ : Addr).add j) = ⟨w'.heap.size, j, none⟩ := by unfold Addr.add; split <;> simp_all
        rw [e]
        refine (cell_of_row wr _ j _ _ _ HG.out).trans ?_
        rw [List.getElem?_toArray, List.getElem?_append_left (by simpa using hj2), List.getElem?_replicate, if_pos hj2])
      have hmn : Nat.min k (N - k) ≤ N - k := Nat.min_le_right _ _
      have hmp : 0 < Nat.min k (N - k) := by
        rcases Nat.le_total k (N - k) with h | h
        · rw [show Nat.min k (N - k) = k from Nat.min_eq_left h]; omega
        · rw [show Nat.min k (N - k) = N - k from Nat.min_eq_right h]; omega
      have HMN : Hid (Nat.min k (N - k) = Nat.min k (N - k)) := Lib.hid rfl
      go_wp2_with fail
      go_region_held3 (fun _ => True) (trivial) ((refine step_copy_splice rfl (.tmp 41) (.tmp 44) 26 26 rfl 3 Try.underlying26 (by kernel_rfl) (some ⟨w'.heap.size, k, none⟩) (some ⟨w'.heap.size, 0, none⟩) (N - k) (N - k) k N (by rfl) (by rfl) w'.heap.size k (List.replicate k (intC x) ++ List.replicate (N - k) (intC 0)) 3 HG.out (List.replicate (Nat.min k (N - k)) (intC x)) (by simp) (fun _ => ⟨rfl, _, rfl, HC.out⟩) (by simp; omega) (fun v hv => by rw [List.eq_of_mem_replicate hv]; rfl) w'.heap.size w' HB.out.drew (Nat.le_refl _) ?_; intro w2 HG2 hb2))
      all_goals
        have hl2 : (List.replicate (Nat.min k (N - k)) (intC x)).length = Nat.min k (N - k) := by simp
        have HGN : Hid (w2.heap[w'.heap.size]? = some (.cells (List.replicate (k + Nat.min k (N - k)) (intC x) ++ List.replicate (N - (k + Nat.min k (N - k))) (intC 0)).toArray 3 (0, 0))) := Lib.hid (by
          have := HG2.out
          rw [splice_rep k N (Nat.min k (N - k)) (intC x) (intC 0) (by omega)] at this
          exact this)
        have HB2 := Lib.hid hb2
        clear HG2 hb2
        generalize Nat.min k (N - k) = m at *
        clear hl2
        have hw : IntKind.i64.wrap ((k : Int) + (m : Int)) = ((k + m : Nat) : Int) := by rw [Int.natCast_add]; exact IntWalk.i64_in _ (by omega)
        go_wp2_with fail
        go_roundw
        case rel => exact ⟨k + m, by omega, by go_num, Lib.hid (fun h => by omega), HGN, HB2⟩
        case measure => simp [intOf]; omega
    · have hkk : k = N := by omega
      subst hkk
      go_wp2_with fail
      go_ret
      refine ⟨_, rfl, Nat.le_refl _, ?_, HB.out⟩
      have := HG.out
      simpa using this
end Go.Proofs.Ytlcgbkeggmaljaa

namespace Go.Proofs.Ytlcgbkeggmaljaa
set_option linter.unusedVariables false
set_option linter.unusedSimpArgs false
open Go Go.RowKit

theorem rowOf_open {α : Type} {enc : α → Value} {B : Nat} {v : Value} {l : List α} {W : World} (h : RowOf enc B v l W) :
    ∃ ao cap, v = .slice ao l.length cap ∧ ∀ i x, l[i]? = some x → ∃ b off, ao = some ⟨b, off, none⟩ ∧ b < B ∧ W.cell? ⟨b, off + i, none⟩ = some (enc x) := by
  rcases h with ⟨rfl, a, c, rfl⟩ | ⟨b, off, cap, rfl, hb, h⟩
  · exact ⟨a, c, rfl, fun i x hx => by simp at hx⟩
  · exact ⟨_, cap, rfl, fun i x hx => ⟨b, off, rfl, hb, h i x hx⟩⟩
theorem rowOf_mk {α : Type} {enc : α → Value} {B : Nat} {l : List α} {W : World} {ao : Option Addr} {cap : Nat} (h : ∀ i x, l[i]? = some x → ∃ b off, ao = some ⟨b, off, none⟩ ∧ b < B ∧ W.cell? ⟨b, off + i, none⟩ = some (enc x)) : RowOf enc B (.slice ao l.length cap) l W := by
  cases l with
  | nil => exact .inl ⟨rfl, _, _, rfl⟩
  | cons y l =>
    obtain ⟨b, off, rfl, hb, h0⟩ := h 0 y rfl
    refine .inr ⟨b, off, cap, rfl, hb, fun i x hx => ?_⟩
    obtain ⟨b', off', e, _, h1⟩ := h i x hx
    cases e
    exact h1

/-- a predicate over numbers that leaves what was there. -/
def PredI (g : Nat) (lb : Array Value) (es : List (Int)) (p : Int → Bool) (w : World) : Prop :=
  ∀ (W : World) (x : Int), x ∈ es → Below w.heap.size w W → Calls Try.prog g (#[intC x] ++ lb) W fun e w' => e = .returned (.bool (p x)) ∧ Below w.heap.size w w'

set_option maxRecDepth 100000 in
set_option maxHeartbeats 2000000 in
theorem idx_int (g : Nat) (lb : Array Value) (eg : ∀ args w, (callFunc g args).run Try.prog w = .ok (.enter g args) w) (p : Int → Bool) (v : Value) (es : List (Int)) (w : World) (hes : es.length ≤ 1000000000) (hE : RowOf intC w.heap.size v es w) (hp : PredI g lb es p w) :
    Calls Try.prog 71 #[v, .func (.func g) #[] lb] w fun e w' => ∃ r : Int, e = .returned (.int .i64 r) ∧ (0 ≤ r ↔ es.any p = true) ∧ Below w.heap.size w w' := by
  obtain ⟨ao, ec, rfl, hE2⟩ := rowOf_open hE
  have HE := Lib.hid hE2
  have HP := Lib.hid hp
  clear hE hE2 hp
  go_enter Try.func71, Try.ntmps71
  go_wp2
  go_loopw [8] (fun s wr => ∃ k : Nat, k ≤ es.length ∧ s = .int .i64 k ∧ Hid (Below w.heap.size w wr) ∧ Hid (∀ x ∈ es.take k, p x = false)) (fun s _ => es.length - (intOf s).toNat)
  case atStart => exact ⟨0, by omega, rfl, Lib.hid (Below.refl _ _), Lib.hid (by simp)⟩
  case round =>
    obtain ⟨k, hk, rfl, HB, HA⟩ := hrel
    by_cases hlt : k < es.length
    · have hlt2 : (k : Int) < (es.length : Int) := by omega
      obtain ⟨b, off, rfl, hb, hc1⟩ := HE.out k es[k] (by simp [hlt])
      have hc1 := (HB.out.cell (p := ⟨b, off + k, none⟩) hb).trans hc1
      have HT : Hid (es.take (k + 1) = es.take k ++ [es[k]]) := Lib.hid (List.take_succ_eq_append_getElem hlt)
      have hcall := HP.out wr es[k] (List.getElem_mem hlt) HB.out
      have HM : Hid (es[k] ∈ es) := Lib.hid (List.getElem_mem hlt)
      generalize es[k] = x at *
      cases hq : p x with
      | true =>
        rw [hq] at hcall
        have HQ := Lib.hid hq
        clear hq
        go_wp2_with (go_at_fn g; refine hcall.mono ?_; rintro e w' ⟨rfl, hb'⟩)
        go_ret
        exact ⟨_, rfl, ⟨fun _ => by rw [List.any_eq_true]; exact ⟨x, HM.out, HQ.out⟩, fun _ => by omega⟩, hb'⟩
      | false =>
        rw [hq] at hcall
        have HQ := Lib.hid hq
        clear hq
        go_wp2_with (go_at_fn g; refine hcall.mono ?_; rintro e w' ⟨rfl, hb'⟩)
        go_roundw
        case rel =>
          refine ⟨k + 1, by omega, by go_num, Lib.hid hb', Lib.hid ?_⟩
          rw [HT.out]
          intro y hy
          rcases List.mem_append.1 hy with hy | hy
          · exact HA.out y hy
          · rw [List.mem_singleton] at hy; rw [hy]; exact HQ.out
        case measure => simp [intOf]; omega
    · have hkk : k = es.length := by omega
      subst hkk
      rw [List.take_length] at HA
      go_wp2
      go_ret
      refine ⟨-1, rfl, ⟨fun h => by omega, fun h => ?_⟩, HB.out⟩
      rw [List.any_eq_true] at h
      obtain ⟨x, hx, hpx⟩ := h
      rw [HA.out x hx] at hpx
      cases hpx

theorem has_int (g : Nat) (lb : Array Value) (eg : ∀ args w, (callFunc g args).run Try.prog w = .ok (.enter g args) w) (p : Int → Bool) (v : Value) (es : List (Int)) (w : World) (hes : es.length ≤ 1000000000) (hE : RowOf intC w.heap.size v es w) (hp : PredI g lb es p w) :
    Calls Try.prog 61 #[v, .func (.func g) #[] lb] w fun e w' => e = .returned (.bool (es.any p)) ∧ Below w.heap.size w w' := by
  have hi := idx_int g lb eg p v es w hes hE hp
  generalize es.any p = q at hi ⊢
  have HI := Lib.hid hi
  obtain ⟨ao, ec, rfl, _⟩ := rowOf_open hE
  clear hp eg hi
  go_enter Try.func61, Try.ntmps61
  go_wp2_with fail
  refine HI.out.mono ?_
  rintro e w' ⟨r, rfl, hr, hb⟩
  cases q with
  | true =>
    have h0 : 0 ≤ r := hr.2 rfl
    clear hr
    go_wp2
    go_ret
    exact ⟨rfl, hb⟩
  | false =>
    have h0 : ¬ 0 ≤ r := fun h => by have := hr.1 h; cases this
    have h1 : decide (0 ≤ r) = false := decide_eq_false h0
    have h2 : r < 0 := by omega
    clear hr
    go_wp2
    go_ret
    exact ⟨rfl, hb⟩


theorem exist1_any (a : Option Addr) (N c Bg : Nat) (i : Int) (w : World) (hc : w.cell? ⟨Bg, 0, none⟩ = some (.slice a N c)) :
    Calls Try.prog 62 #[.int .i64 i, .pointer (some ⟨Bg, 0, none⟩)] w fun e w' => e = .returned (.bool (!nodeB N i)) ∧ w = w' := by
  by_cases h1 : 0 ≤ i
  · by_cases h2 : i < N
    · have e : nodeB N i = true := by unfold nodeB; exact decide_eq_true ⟨h1, h2⟩
      rw [e]; clear e
      have h3 : ¬ i < 0 := by omega
      have h4 : ¬ (N : Int) ≤ i := by omega
      go_enter Try.func62, Try.ntmps62
      go_wp2
      go_ret
      exact ⟨rfl, rfl⟩
    · have e : nodeB N i = false := by unfold nodeB; exact decide_eq_false (fun h => h2 h.2)
      rw [e]; clear e
      have h3 : ¬ i < 0 := by omega
      have h4 : (N : Int) ≤ i := by omega
      go_enter Try.func62, Try.ntmps62
      go_wp2
      go_ret
      exact ⟨rfl, rfl⟩
  · have e : nodeB N i = false := by unfold nodeB; exact decide_eq_false (fun h => h1 h.1)
    rw [e]; clear e
    have h3 : i < 0 := by omega
    go_enter Try.func62, Try.ntmps62
    go_wp2
    go_ret
    exact ⟨rfl, rfl⟩

theorem any_not {α : Type} (l : List α) (p : α → Bool) : (l.any fun x => !p x) = !l.all p := by
  induction l with
  | nil => rfl
  | cons x l ih => simp [ih, Bool.not_and]

set_option maxRecDepth 100000 in
set_option maxHeartbeats 2000000 in
theorem exist_any (a : Option Addr) (N c : Nat) (ev lv : Value) (es : List (Int × Int)) (l : List Int) (w : World) (hes : es.length ≤ 1000000000000) (hE : EdgesOf w.heap.size ev es w) (hll : l.length ≤ 1000000000) (hL : RowOf intC w.heap.size lv l w) :
    Calls Try.prog 39 #[.agg #[.slice a N c, ev], lv] w fun e w' => e = .returned (.bool (validG N es && l.all (nodeB N))) ∧ Below w.heap.size w w' := by
  have hb1 : Below w.heap.size w (w.alloc (.cells #[.slice a N c, ev] 25)) := (Below.refl _ _).alloc (Nat.le_refl _) _
  have hv := Valid_any a N c ev es _ hes ((hE.below hb1 (Nat.le_refl _)).mono hb1.size)
  have hcg : (w.alloc (.cells #[.slice a N c, ev] 25)).cell? ⟨w.heap.size, 0, none⟩ = some (.slice a N c) := cell_of_row _ _ _ _ _ _ (World.alloc_heap_new w _)
  have hh : ∀ W, Below (w.heap.size + 1) (w.alloc (.cells #[.slice a N c, ev] 25)) W → Calls Try.prog 61 #[lv, .func (.func 62) #[] #[.pointer (some ⟨w.heap.size, 0, none⟩)]] W fun e w' => e = .returned (.bool (!l.all (nodeB N))) ∧ Below W.heap.size W w' := fun W hW => by
    rw [← any_not]
    have hs := hW.size
    simp at hs
    refine has_int 62 _ (enters_of Try.func62 (by kernel_rfl) rfl) (fun x => !nodeB N x) lv l W hll ((hL.below (hb1.trans (hW.mono (by omega))) (Nat.le_refl _)).mono (by omega)) fun W2 x hx hW2 => ?_
    refine (exist1_any a N c w.heap.size x W2 ?_).mono fun e w' h => ⟨h.1, h.2 ▸ hW2⟩
    exact (hW2.cell (p := ⟨w.heap.size, 0, none⟩) (by show w.heap.size < _; omega)).trans ((hW.cell (p := ⟨w.heap.size, 0, none⟩) (by show w.heap.size < _; omega)).trans hcg)
  obtain ⟨la, lc, rfl, _⟩ := rowOf_open hL
  have hE2 := hE
  obtain ⟨ao, ec, rfl, _⟩ := hE2
  generalize validG N es = b1 at *
  generalize l.all (nodeB N) = b2 at *
  have HV := Lib.hid hv
  have HH := Lib.hid hh
  have HB1 := Lib.hid hb1
  clear hv hh hb1 hcg hE hL
  cases b1 with
  | false =>
    go_enter Try.func39, Try.ntmps39
    go_wp2_with fail
    refine HV.out.mono ?_
    rintro e w' ⟨rfl, hb⟩
    go_wp2_with fail
    go_ret
    exact ⟨rfl, HB1.out.trans (hb.mono (by simp))⟩
  | true =>
    cases b2 with
    | false =>
      go_enter Try.func39, Try.ntmps39
      go_wp2_with fail
      refine HV.out.mono ?_
      rintro e w' ⟨rfl, hb⟩
      have HH2 := Lib.hid (HH.out w' (by simpa using hb))
      go_wp2_with fail
      refine HH2.out.mono ?_
      rintro e w2 ⟨rfl, hb2⟩
      go_wp2_with fail
      go_ret
      exact ⟨rfl, (HB1.out.trans (hb.mono (by simp))).trans (hb2.mono (by have := hb.size; simp at this; omega))⟩
    | true =>
      go_enter Try.func39, Try.ntmps39
      go_wp2_with fail
      refine HV.out.mono ?_
      rintro e w' ⟨rfl, hb⟩
      have HH2 := Lib.hid (HH.out w' (by simpa using hb))
      go_wp2_with fail
      refine HH2.out.mono ?_
      rintro e w2 ⟨rfl, hb2⟩
      go_wp2_with fail
      go_ret
      exact ⟨rfl, (HB1.out.trans (hb.mono (by simp))).trans (hb2.mono (by have := hb.size; simp at this; omega))⟩
end Go.Proofs.Ytlcgbkeggmaljaa

namespace Go.Proofs.Ytlcgbkeggmaljaa
set_option linter.unusedVariables false
set_option linter.unusedSimpArgs false
open Go Go.RowKit

/-- the edges of the reversed graph. -/
def revE (n : Nat) (es : List (Int × Int)) : List (Int × Int) := if validG n es = true then es.map swapE else []
def revN {α : Type} (ns : List α) (es : List (Int × Int)) : List α := if validG ns.length es = true then ns else []
/-- the cells of edges. -/
def edgeCells (es : List (Int × Int)) : List Value := es.flatMap fun x => [intC x.1, intC x.2]
theorem edgeCells_snoc (es : List (Int × Int)) (x : Int × Int) : edgeCells (es ++ [x]) = edgeCells es ++ [intC x.1, intC x.2] := by unfold edgeCells; rw [List.flatMap_append]; rfl
theorem edgeCells_length (es : List (Int × Int)) : (edgeCells es).length = es.length * 2 := by
  induction es with
  | nil => rfl
  | cons x es ih => show (intC x.1 :: intC x.2 :: edgeCells es).length = _; simp [ih]; omega
theorem edgeCells_get (es : List (Int × Int)) (i : Nat) (x : Int × Int) (h : es[i]? = some x) : (edgeCells es)[i * 2]? = some (intC x.1) ∧ (edgeCells es)[i * 2 + 1]? = some (intC x.2) := by
  induction es generalizing i with
  | nil => simp at h
  | cons y es ih =>
    cases i with
    | zero => simp at h; subst h; exact ⟨rfl, rfl⟩
    | succ i =>
      have := ih i (by simpa using h)
      have e : ∀ j, (edgeCells (y :: es))[j + 2]? = (edgeCells es)[j]? := fun j => rfl
      rw [show (i + 1) * 2 = i * 2 + 2 by omega, show i * 2 + 2 + 1 = (i * 2 + 1) + 2 by omega, e, e]
      exact this
theorem own_edges {W : World} {B n : Nat} {v : Value} {es : List (Int × Int)} (h : W.ownsRow B 39 2 v n (edgeCells es)) : EdgesOf W.heap.size v es W := by
  have hl : n = es.length := by have := h.1; rw [edgeCells_length] at this; omega
  subst hl
  rcases h.2 with ⟨rfl, h0⟩ | ⟨g, cap, cur, rfl, hb, hg, hc, _⟩
  · obtain rfl := List.length_eq_zero_iff.1 h0
    exact ⟨none, 0, rfl, fun i x hx => by simp at hx⟩
  · refine ⟨_, cap, rfl, fun i x hx => ⟨g, 0, rfl, (Array.getElem?_eq_some_iff.1 hg).1, ?_, ?_⟩⟩
    · have hi := (List.getElem?_eq_some_iff.1 hx).1
      rw [Nat.zero_add, h.cellAt (i * 2) (by omega)]
      exact (edgeCells_get es i x hx).1
    · have hi := (List.getElem?_eq_some_iff.1 hx).1
      rw [Nat.zero_add, h.cellAt (i * 2 + 1) (by omega)]
      exact (edgeCells_get es i x hx).2
theorem info_edges : (Try.prog.info? 39).map (fun i => (i.zero, i.size, i.bytes)) = some (some (.agg #[.int .i64 0, .int .i64 0]), 2, 16) := by kernel_rfl

/-- slices.Clone at strings. -/
theorem clone_strs (nv : Value) (ns : List ByteArray) (w : World) (hn : ns.length ≤ 1000000) (h : RowOf Value.string w.heap.size nv ns w) :
    Calls Try.prog 50 #[nv] w fun e w' => ∃ ao cap, e = .returned (.slice ao ns.length cap) ∧ RowOf Value.string w'.heap.size (.slice ao ns.length cap) ns w' ∧ Below w.heap.size w w' := by
  rcases h with ⟨rfl, a, c, rfl⟩ | ⟨b, off, cap, rfl, hb, h⟩
  · cases a with
    | none =>
      refine (Try.slices_Clone_string_nil 0 c w).mono ?_
      rintro e w' ⟨rfl, rfl⟩
      exact ⟨none, 0, rfl, .inl ⟨rfl, _, _, rfl⟩, Below.refl _ _⟩
    | some a =>
      refine (Try.slices_Clone_string_zero a c w).mono ?_
      rintro e w' ⟨v', rfl, ho, _, hb⟩
      rcases ho.2 with ⟨rfl, _⟩ | ⟨g, cap, cur, rfl, _⟩
      · exact ⟨none, 0, rfl, .inl ⟨rfl, _, _, rfl⟩, hb⟩
      · exact ⟨_, cap, rfl, .inl ⟨rfl, _, _, rfl⟩, hb⟩
  · refine (Try.slices_Clone_string b off ns.length cap ns w (Nat.le_refl _) (by omega) (fun j hj => by
      have := h j ns[j] (by simp [hj])
      rw [this, List.getD_eq_getElem?_getD, List.getElem?_eq_getElem hj]
      rfl)).mono ?_
    rintro e w' ⟨v', rfl, ho, _, hb⟩
    rw [List.take_length] at ho
    have hr := own_row ho
    rcases ho.2 with ⟨rfl, h0⟩ | ⟨g, cap, cur, rfl, _⟩
    · obtain rfl := List.length_eq_zero_iff.1 h0
      exact ⟨none, 0, rfl, .inl ⟨rfl, _, _, rfl⟩, hb⟩
    · exact ⟨_, cap, rfl, hr.2, hb⟩

theorem set_two {W : World} {g t : Nat} {x y x' y' : Value} (h : W.heap[g]? = some (.cells #[x, y] t (0, 0))) : ((W.setCell ⟨g, 0, none⟩ x').setCell ⟨g, 1, none⟩ y').heap[g]? = some (.cells #[x', y'] t (0, 0)) := by
  have h1 := heap_setCell_same W g 0 #[x, y] t x' h
  exact heap_setCell_same _ g 1 _ t y' h1
set_option maxRecDepth 100000 in
set_option maxHeartbeats 4000000 in
theorem Reverse_any (nv ev : Value) (ns : List ByteArray) (es : List (Int × Int)) (w : World) (hes : es.length ≤ 1000000000000) (hE : EdgesOf w.heap.size ev es w) (hN : RowOf Value.string w.heap.size nv ns w) :
    Calls Try.prog 17 #[.agg #[nv, ev]] w fun e w' => ∃ a c v', e = .returned (.agg #[.slice a (revN ns es).length c, v']) ∧ RowOf Value.string w'.heap.size (.slice a (revN ns es).length c) (revN ns es) w' ∧ EdgesOf w'.heap.size v' (revE ns.length es) w' ∧ Below w.heap.size w w' := by
  obtain ⟨na, nc, rfl, _⟩ := rowOf_open hN
  have hb1 : Below w.heap.size w ((w.alloc (.cells #[.slice na ns.length nc, ev] 25)).alloc (.cells #[.slice none 0 0, .slice none 0 0] 25)) := ((Below.refl _ _).alloc (Nat.le_refl _) _).alloc (by simp) _
  have hv := Valid_any na ns.length nc ev es _ hes ((hE.below hb1 (Nat.le_refl _)).mono hb1.size)
  have hnew : ((w.alloc (.cells #[.slice na ns.length nc, ev] 25)).alloc (.cells #[.slice none 0 0, .slice none 0 0] 25)).heap[w.heap.size + 1]? = some (.cells #[.slice none 0 0, .slice none 0 0] 25 (0, 0)) := by
    have := World.alloc_heap_new (w.alloc (.cells #[.slice na ns.length nc, ev] 25)) (.cells #[.slice none 0 0, .slice none 0 0] 25)
    rw [World.size_alloc] at this
    exact this
  have HNEW := Lib.hid hnew
  clear hnew
  by_cases hval : validG ns.length es = true
  · have e1 : revN ns es = ns := if_pos hval
    have e2 : revE ns.length es = es.map swapE := if_pos hval
    rw [e1, e2]
    clear e1 e2
    rw [hval] at hv
    obtain ⟨hNn, hNe⟩ := validG_n hval
    have hc : ∀ W, Below (w.heap.size + 2) ((w.alloc (.cells #[.slice na ns.length nc, ev] 25)).alloc (.cells #[.slice none 0 0, .slice none 0 0] 25)) W → RowOf Value.string W.heap.size (.slice na ns.length nc) ns W := fun W hW =>
      (hN.below (hb1.trans (hW.mono (by omega))) (Nat.le_refl _)).mono (by have := hW.size; simp at this; omega)
    obtain ⟨ao, ec, rfl, hE⟩ := hE
    have HV := Lib.hid hv
    have HC := Lib.hid hc
    have HB1 := Lib.hid hb1
    have HE := Lib.hid hE
    clear hv hc hb1 hE hN hval
    go_enter Try.func17, Try.ntmps17
    go_wp2_with fail
    refine HV.out.mono ?_
    rintro e w1 ⟨rfl, hb⟩
    have hcl := clone_strs _ ns w1 (by omega) (HC.out w1 (by simpa using hb))
    have HCL := Lib.hid hcl
    have hs1 := hb.size
    simp at hs1
    have hg1 := (hb.cell (p := ⟨w.heap.size, 0, none⟩) (by show w.heap.size < _; simp; omega)).trans (cellA _ (cell_of_row _ _ 0 _ _ _ (World.alloc_heap_new w (.cells #[.slice na ns.length nc, .slice ao es.length ec] 25))))
    have hg2 := (hb.cell (p := ⟨w.heap.size, 1, none⟩) (by show w.heap.size < _; simp; omega)).trans (cellA _ (cell_of_row _ _ 1 _ _ _ (World.alloc_heap_new w (.cells #[.slice na ns.length nc, .slice ao es.length ec] 25))))
    have hr1 := (hb.block (w.heap.size + 1) (by simp)).trans HNEW.out
    have HW1 := Lib.hid (HB1.out.trans (hb.mono (by simp; omega)))
    have HR1 := Lib.hid hr1
    clear hcl hb hr1
    go_wp2_with fail
    refine HCL.out.mono ?_
    rintro e w2 ⟨a', c', rfl, hrn, hb2⟩
    have hs2 := hb2.size
    have hg2' := (hb2.cell (p := ⟨w.heap.size, 1, none⟩) (by show w.heap.size < _; omega)).trans hg2
    have hg2a := cellA (.cells #[.slice a' ns.length c', .slice none 0 0] 25) hg2'
    have hr2 := (hb2.block (w.heap.size + 1) (by omega)).trans HR1.out
    have HW2 := Lib.hid (HW1.out.trans (hb2.mono (by omega)))
    have HRN := Lib.hid hrn
    have HR2 := Lib.hid hr2
    clear hrn hb2 hr2 HCL HR1 HW1 hg1 hg2
    go_wp2_with fail
    obtain ⟨i0, hi0', hz0, hz1, hz2⟩ := info_parts info_edges
    have HL0 : Hid ((w2.alloc (.cells #[.slice a' ns.length c', .slice none 0 0] 25)).heap[w2.heap.size]? = some (.cells #[.slice a' ns.length c', .slice none 0 0] 25 (0, 0))) := Lib.hid (World.alloc_heap_new w2 _)
    have HL1 : Hid (Below w2.heap.size w2 (w2.alloc (.cells #[.slice a' ns.length c', .slice none 0 0] 25))) := Lib.hid ((Below.refl _ _).alloc (Nat.le_refl _) _)
    clear hg2a hg2'
    go_loopw [17] (fun p wr => ∃ (k : Nat) (v : Value), k ≤ es.length ∧ p = .int .i64 k ∧ Hid (wr.heap[w2.heap.size]? = some (.cells #[.slice a' ns.length c', v] 25 (0, 0))) ∧ Hid (wr.ownsRow w2.heap.size 39 2 v k (edgeCells ((es.take k).map swapE))) ∧ Hid (Below w2.heap.size w2 wr)) (fun p _ => es.length - (intOf p).toNat)
    case atStart => exact ⟨0, .slice none 0 0, by omega, rfl, HL0, Lib.hid (World.ownsRow_nil _ _ _ _), HL1⟩
    case round =>
      clear HL0 HL1
      obtain ⟨k, v, hk, rfl, HBX, HO, HB⟩ := hrel
      have hszr := HB.out.size
      by_cases hlt : k < es.length
      · obtain ⟨b, off, rfl, hb, hc1, hc2⟩ := HE.out k es[k] (by simp [hlt])
        have hW := HW2.out.trans (HB.out.mono (by omega))
        have hc1 := (hW.cell (p := ⟨b, off + k * 2, none⟩) hb).trans hc1
        have hc2 := (hW.cell (p := ⟨b, off + k * 2 + 1, none⟩) hb).trans hc2
        have HT : Hid ((es.take (k + 1)).map swapE = (es.take k).map swapE ++ [swapE es[k]]) := Lib.hid (by rw [List.take_succ_eq_append_getElem hlt, List.map_append]; rfl)
        clear hW
        obtain ⟨⟨x1, x2⟩, hx⟩ : ∃ x, x = es[k] := ⟨_, rfl⟩
        rw [← hx] at hc1 hc2 HT
        clear hx
        simp only at hc1 hc2
        have hcv0 : wr.cell? ⟨w2.heap.size, 1, none⟩ = some v := cell_of_row _ _ 1 _ _ _ HBX.out
        have hcv := cellA (.cells #[.int .i64 x1, .int .i64 x2] 39) hcv0
        have HN : Hid (∀ W1, ((wr.alloc (.cells #[intC x1, intC x2] 39)).alloc (.cells #[intC x2, intC x1] 39)).grownBy W1 v.ownBlock → W1.heap[w2.heap.size]? = some (.cells #[.slice a' ns.length c', v] 25 (0, 0)) ∧ Below w2.heap.size w2 W1) := Lib.hid (fun W1 hg => by
          refine ⟨(hg.block _ (by simp; have := (Array.getElem?_eq_some_iff.1 HBX.out).1; omega) (blk_ne HBX.out HO.out (by decide))).trans (((Below.heap_alloc _ _ _ (by have := (Array.getElem?_eq_some_iff.1 HBX.out).1; simp; omega)).trans (Below.heap_alloc _ _ _ (Array.getElem?_eq_some_iff.1 HBX.out).1)).trans HBX.out), ?_⟩
          exact ((HB.out.alloc hszr _).alloc (by simp; omega) _).grown hg (by simp; omega) (fun b hb => (HO.out.lt b hb).1))
        go_wp2_with (at_builtin; refine wpList_append_own _ rfl _ _ 23 rfl w2.heap.size 39 i0 _ 2 16 Try.underlying23 hi0' hz0 hz1 hz2 rfl (by decide) v k _ (by rfl) ((HO.out.alloc _).alloc _) ⟨wr.heap.size + 1, 0, none⟩ 1 1 [intC x2, intC x1] (by rfl) (by rfl) (World.news_of_block (cs := #[intC x2, intC x1]) (t := 39) (fr := (0, 0)) (by have := heap_alloc_new (wr.alloc (.cells #[intC x1, intC x2] 39)) (.cells #[intC x2, intC x1] 39); rw [World.size_alloc] at this; exact this)) (by simp [Value.oneCell']) (by unfold maxLen; omega) (by omega) (by simp; omega) ?_; intro v' w3 hown' hgrow _; obtain ⟨hbx, hbb⟩ := HN.out _ hgrow; have hfz := frozen_of_row _ _ 1 _ _ hbx; have hcx : w3.cell? ⟨w2.heap.size, 1, none⟩ = some v := cell_of_row _ _ 1 _ _ _ hbx; have HBX2 := Lib.hid hbx; have HBB2 := Lib.hid hbb; have HOW2 := Lib.hid hown'; clear hbx hbb hown' hgrow; obtain ⟨gg, cap, rfl⟩ := ownsRow_succ HOW2.out)
        go_roundw
        case rel =>
          refine ⟨k + 1, .slice (some ⟨gg, 0, none⟩) (k + 1) cap, by omega, by go_num, Lib.hid ?_, Lib.hid ?_, Lib.hid ?_⟩
          · exact heap_setCell_same _ w2.heap.size 1 _ _ _ HBX2.out
          · rw [HT.out, edgeCells_snoc]
            refine HOW2.out.kept (row := some w2.heap.size) ⟨rfl, rfl, rfl, by simp, fun k' _ hk' => heap_setCell_other _ ⟨w2.heap.size, 1, none⟩ k' _ (fun e => hk' (by rw [e]))⟩ ?_
            exact .inr (Ne.symm (blk_ne HBX2.out HOW2.out (by decide)))
          · exact HBB2.out.setCell (Nat.le_refl _) _
        case measure => simp [intOf]; omega
      · have hkk : k = es.length := by omega
        subst hkk
        rw [List.take_length] at HO
        have hc0 : wr.cell? ⟨w2.heap.size, 0, none⟩ = some (.slice a' ns.length c') := cell_of_row _ _ 0 _ _ _ HBX.out
        have hc1 : wr.cell? ⟨w2.heap.size, 1, none⟩ = some v := cell_of_row _ _ 1 _ _ _ HBX.out
        have hrb := (HB.out.block (w.heap.size + 1) (by omega)).trans HR2.out
        have hr0 : wr.cell? ⟨w.heap.size + 1, 0, none⟩ = some (.slice none 0 0) := cell_of_row _ _ 0 _ _ _ hrb
        have hr1 : wr.cell? ⟨w.heap.size + 1, 1, none⟩ = some (.slice none 0 0) := cell_of_row _ _ 1 _ _ _ hrb
        have hf0 := frozen_of_row _ _ 0 _ _ hrb
        have hf1 := frozen_of_row _ _ 1 _ _ hrb
        obtain ⟨va, vn, vc, rfl⟩ : ∃ a n c, v = .slice a n c := by
          rcases HO.out.2 with ⟨rfl, _⟩ | ⟨g, cap, cur, rfl, _⟩
          · exact ⟨_, _, _, rfl⟩
          · exact ⟨_, _, _, rfl⟩
        have HRB := Lib.hid hrb
        clear hrb
        go_wp2_with fail
        have HR3 := set_two (x' := .slice a' ns.length c') (y' := .slice va vn vc) HRB.out
        have z0 : ((wr.setCell ⟨w.heap.size + 1, 0, none⟩ (.slice a' ns.length c')).setCell ⟨w.heap.size + 1, 1, none⟩ (.slice va vn vc)).cell? ⟨w.heap.size + 1, 0, none⟩ = some (.slice a' ns.length c') := cell_of_row _ _ 0 _ _ _ HR3
        have z1 : ((wr.setCell ⟨w.heap.size + 1, 0, none⟩ (.slice a' ns.length c')).setCell ⟨w.heap.size + 1, 1, none⟩ (.slice va vn vc)).cell? ⟨w.heap.size + 1, 1, none⟩ = some (.slice va vn vc) := cell_of_row _ _ 1 _ _ _ HR3
        clear HR3 hc0 hc1 hr0 hr1 hf0 hf1
        refine bodyPost_ret (v := .agg #[.slice a' ns.length c', .slice va vn vc]) (by simp [results, Try.results17, go_sem, z0, z1]) rfl ⟨a', c', .slice va vn vc, rfl, ?_, ?_, ?_⟩
        · have hr4 : RowOf Value.string wr.heap.size (.slice a' ns.length c') ns wr := (HRN.out.below HB.out (Nat.le_refl _)).mono hszr
          rcases hr4 with ⟨h1, h2⟩ | ⟨rb, ro, rc, h1, h2, h3⟩
          · exact .inl ⟨h1, h2⟩
          · refine .inr ⟨rb, ro, rc, h1, by simpa using h2, fun i x hx => ?_⟩
            have h4 := h3 i x hx
            have hne : rb ≠ w.heap.size + 1 := fun e => by
              rw [e, cell_of_row _ _ _ _ _ _ HRB.out] at h4
              match ro + i, h4 with
              | 0, h4 => cases h4
              | 1, h4 => cases h4
              | j + 2, h4 => simp at h4
            rw [World.cell?_setCell_far _ _ _ _ (by exact Ne.symm hne), World.cell?_setCell_far _ _ _ _ (by exact Ne.symm hne)]
            exact h4
        · refine own_edges (B := w2.heap.size) (n := es.length) (own_far HO.out fun k' hk' => ?_)
          have := (HO.out.lt k' hk').1
          rw [Below.heap_setCell _ _ _ _ (by show k' ≠ w.heap.size + 1; omega), Below.heap_setCell _ _ _ _ (by show k' ≠ w.heap.size + 1; omega)]
        · exact ((HW2.out.trans (HB.out.mono (by omega))).setCell (by show w.heap.size ≤ w.heap.size + 1; omega) _).setCell (by show w.heap.size ≤ w.heap.size + 1; omega) _
  · have hval2 : validG ns.length es = false := by simpa using hval
    have e1 : revN ns es = [] := if_neg hval
    have e2 : revE ns.length es = [] := if_neg hval
    rw [e1, e2]
    clear e1 e2
    rw [hval2] at hv
    obtain ⟨ao, ec, rfl, _⟩ := hE
    have HV := Lib.hid hv
    have HB1 := Lib.hid hb1
    clear hv hb1 hN hval hval2
    go_enter Try.func17, Try.ntmps17
    go_wp2_with fail
    refine HV.out.mono ?_
    rintro e w1 ⟨rfl, hb⟩
    have hs1 := hb.size
    simp at hs1
    have hr1 := (hb.block (w.heap.size + 1) (by simp)).trans HNEW.out
    have hc0 : w1.cell? ⟨w.heap.size + 1, 0, none⟩ = some (.slice none 0 0) := cell_of_row _ _ 0 _ _ _ hr1
    have hc1 : w1.cell? ⟨w.heap.size + 1, 1, none⟩ = some (.slice none 0 0) := cell_of_row _ _ 1 _ _ _ hr1
    have hf := frozen_of_row _ _ 0 _ _ hr1
    have hf1 := frozen_of_row _ _ 1 _ _ hr1
    have HB := Lib.hid hb
    have hr1b := Lib.hid hr1
    clear hb hr1
    go_wp2_with fail
    have HRB := set_two (x' := .slice none 0 0) (y' := .slice none 0 0) hr1b.out
    have z0 : ((w1.setCell ⟨w.heap.size + 1, 0, none⟩ (.slice none 0 0)).setCell ⟨w.heap.size + 1, 1, none⟩ (.slice none 0 0)).cell? ⟨w.heap.size + 1, 0, none⟩ = some (.slice none 0 0) := cell_of_row _ _ 0 _ _ _ HRB
    have z1 : ((w1.setCell ⟨w.heap.size + 1, 0, none⟩ (.slice none 0 0)).setCell ⟨w.heap.size + 1, 1, none⟩ (.slice none 0 0)).cell? ⟨w.heap.size + 1, 1, none⟩ = some (.slice none 0 0) := cell_of_row _ _ 1 _ _ _ HRB
    clear HRB hc0 hc1 hf hf1
    refine bodyPost_ret (v := .agg #[.slice none 0 0, .slice none 0 0]) (by simp [results, Try.results17, go_sem, z0, z1]) rfl ⟨none, 0, .slice none 0 0, rfl, .inl ⟨rfl, _, _, rfl⟩, ⟨none, 0, rfl, fun i x hx => by simp at hx⟩, ?_⟩
    exact ((HB1.out.trans (HB.out.mono (by simp; omega))).setCell (by show w.heap.size ≤ w.heap.size + 1; omega) _).setCell (by show w.heap.size ≤ w.heap.size + 1; omega) _
end Go.Proofs.Ytlcgbkeggmaljaa

namespace Go.Proofs.Ytlcgbkeggmaljaa
set_option linter.unusedVariables false
set_option linter.unusedSimpArgs false
open Go Go.RowKit

/-- some flags in a block. -/
def Flags (W : World) (g : Nat) (l : List Bool) : Prop := W.heap[g]? = some (.cells (l.map Value.bool).toArray 4 (0, 0))
theorem Flags.cell {W : World} {g : Nat} {l : List Bool} (h : Flags W g l) (i : Nat) (b : Bool) (hb : l[i]? = some b) : W.cell? ⟨g, i, none⟩ = some (.bool b) := by
  rw [cell_of_row _ _ _ _ _ _ h]
  simp [hb]
theorem Flags.set {W : World} {g : Nat} {l : List Bool} (h : Flags W g l) (i : Nat) (b : Bool) : Flags (W.setCell ⟨g, i, none⟩ (.bool b)) g (l.set i b) := by
  have := heap_setCell_same W g i _ _ (.bool b) h
  unfold Flags
  rw [this]
  simp [List.map_set]
/-- what a visit finds: the boxes of the successors, of the flags' slice and of the closure. -/
structure VisW (W : World) (B0 Bs Bn Bv gs : Nat) (v : Value) (S : List (List Nat)) : Prop where
  s : Boxed W Bs 53 v
  f : Boxed W Bn 55 (.slice (some ⟨gs, 0, none⟩) S.length S.length)
  c : Boxed W Bv 56 (.func (.func 41) #[] #[.pointer (some ⟨Bn, 0, none⟩), .pointer (some ⟨Bs, 0, none⟩), .pointer (some ⟨Bv, 0, none⟩)])
  r : RowsOf B0 v S W
theorem VisW.kept {W W' : World} {B0 Bs Bn Bv gs : Nat} {v : Value} {S : List (List Nat)} (h : VisW W B0 Bs Bn Bv gs v S) (hg : W.grownBy W' (some gs)) (h1 : Bs ≠ gs) (h2 : Bn ≠ gs) (h3 : Bv ≠ gs) (h4 : B0 ≤ gs) (h5 : B0 ≤ W.heap.size) : VisW W' B0 Bs Bn Bv gs v S :=
  ⟨h.s.kept hg (by simpa using h1), h.f.kept hg (by simpa using h2), h.c.kept hg (by simpa using h3), h.r.below (B' := B0) ((Below.refl B0 W).grown hg h5 (fun k e => by cases e; exact h4)) (Nat.le_refl _)⟩
theorem VisW.turn {W W' : World} {B0 Bs Bn Bv gs : Nat} {v : Value} {S : List (List Nat)} (h : VisW W B0 Bs Bn Bv gs v S) {row : Option Nat} (hg : W.grownBy W' row) (hr : ∀ r, row = some r → B0 ≤ r ∧ ∃ o : Obj, W.heap[r]? = some o ∧ o.isCells = false) (h5 : B0 ≤ W.heap.size) : VisW W' B0 Bs Bn Bv gs v S :=
  ⟨blk_turn h.s hg (fun r e => (hr r e).2), blk_turn h.f hg (fun r e => (hr r e).2), blk_turn h.c hg (fun r e => (hr r e).2), h.r.below (B' := B0) ((Below.refl B0 W).grown hg h5 (fun k e => (hr k e).1)) (Nat.le_refl _)⟩

attribute [local go_sem] Oper.semAt_some

set_option maxRecDepth 100000 in
set_option maxHeartbeats 4000000 in
theorem visit_any (B0 Bs Bn Bv gs : Nat) (v : Value) (S : List (List Nat)) (hS : S.length ≤ 1000000) (hSl : ∀ a, (S.getD a []).length ≤ 1000000) (hSk : ∀ a, ∀ k ∈ S.getD a [], k < S.length) (d1 : Bs ≠ gs) (d2 : Bn ≠ gs) (d3 : Bv ≠ gs) (d4 : B0 ≤ gs) :
    ∀ (m : Nat) (seen : List Bool) (n : Nat) (W : World), unseen seen ≤ m → seen.length = S.length → n < S.length → B0 ≤ W.heap.size → VisW W B0 Bs Bn Bv gs v S → Flags W gs seen →
    Calls Try.prog 41 #[natC n, .pointer (some ⟨Bn, 0, none⟩), .pointer (some ⟨Bs, 0, none⟩), .pointer (some ⟨Bv, 0, none⟩)] W fun e W' => e = .returned (.tuple #[]) ∧ ∃ seen', VisR S seen n seen' ∧ Flags W' gs seen' ∧ W.grownBy W' (some gs) := by
  intro m
  induction m with
  | zero =>
    intro seen n W hm hl hn hB hV hF
    have hnl : n < seen.length := by omega
    have hsn : seen[n]? = some true := by
      cases hb : seen[n]? with
      | none => rw [List.getElem?_eq_none_iff] at hb; omega
      | some b =>
        cases b with
        | true => rfl
        | false => have := unseen_set seen n hb; omega
    have hc1 := hV.f.cell
    have hc2 := hF.cell n true hsn
    have hn0 : (0 : Int) ≤ (n : Int) := by omega
    have hn1 : (n : Int) < (S.length : Int) := by omega
    have HV := Lib.hid (VisR.seen (S := S) hsn)
    have HF := Lib.hid hF
    clear hF hV hsn
    go_enter Try.func41, Try.ntmps41
    go_wp2_with fail
    exact bodyPost_ret (results_none rfl _ _ _) rfl ⟨rfl, _, HV.out, HF.out, World.grownBy.refl _ _⟩
  | succ m ih =>
    intro seen n W hm hl hn hB hV hF
    have hnl : n < seen.length := by omega
    have hn0 : (0 : Int) ≤ (n : Int) := by omega
    have hn1 : (n : Int) < (S.length : Int) := by omega
    cases hb : seen[n]? with
    | none => rw [List.getElem?_eq_none_iff] at hb; omega
    | some b =>
      cases b with
      | true =>
        have hc1 := hV.f.cell
        have hc2 := hF.cell n true hb
        have HV := Lib.hid (VisR.seen (S := S) hb)
        have HF := Lib.hid hF
        clear hF hV hb ih
        go_enter Try.func41, Try.ntmps41
        go_wp2_with fail
        exact bodyPost_ret (results_none rfl _ _ _) rfl ⟨rfl, _, HV.out, HF.out, World.grownBy.refl _ _⟩
      | false =>
        have hc1 := hV.f.cell
        have hc2 := hF.cell n false hb
        have hfz := frozen_of_row _ _ n _ _ hF
        have hc3 := hV.s.cell
        have hcu := unseen_set seen n hb
        have HB := Lib.hid hb
        have HVW := Lib.hid hV
        have HFL := Lib.hid hF
        have IH := Lib.hid ih
        clear hF hV hb ih
        refine (callsIn_wide (n := 9)).1 ?_
        refine callsIn_of_wp_marks Try.func41 rfl trivial ?_ rfl
        simp only [Try.ntmps41, List.size_toArray, List.length_cons, List.length_nil, Nat.reduceAdd, Nat.reduceSub, Array.replicate_succ, Array.replicate_zero, List.push_toArray, List.append_toArray, List.nil_append, List.cons_append]
        gi_wp2_with fail
        refine ⟨trivial, (of_in 8 v (n : Int) 0 _ ?_).mono ?_⟩
        · obtain ⟨_, _, hv⟩ | ⟨_, _, _, hv, _⟩ := HVW.out.r
          · obtain ⟨_, rfl⟩ := hv; rfl
          · rw [hv]; rfl
        rintro e w' ⟨rfl, rfl⟩
        gi_wp2_with fail
        obtain ⟨W0, hW0⟩ : ∃ W0, W0 = W.setCell ⟨gs, n, none⟩ (.bool true) := ⟨_, rfl⟩
        have hg0 : W.grownBy W0 (some gs) := by rw [hW0]; exact ⟨rfl, rfl, rfl, by simp, fun k _ hk => heap_setCell_other _ ⟨gs, n, none⟩ k _ (fun e => hk (by rw [e]))⟩
        have hF0 : Flags W0 gs (seen.set n true) := by rw [hW0]; exact HFL.out.set n true
        have hV0 := HVW.out.kept hg0 d1 d2 d3 d4 hB
        have hs0 : W0.heap.size = W.heap.size := by rw [hW0]; simp
        rw [← hW0]
        clear hW0 hc1 hc2 hc3 hfz
        have hgs : gs < W0.heap.size := (Array.getElem?_eq_some_iff.1 hF0).1
        obtain ⟨W1, hW1⟩ : ∃ W1, W1 = ((W0.alloc (.cells #[v] 53)).alloc (.cells #[.int .i64 (n : Int)] 3)).alloc (.cells #[.int .i64 0] 3) := ⟨_, rfl⟩
        have hg1 : W0.grownBy W1 none := by rw [hW1]; exact ((World.grownBy_alloc _ _ _).trans (World.grownBy_alloc _ _ _)).trans (World.grownBy_alloc _ _ _)
        have b0 : Boxed W1 W.heap.size 53 v := by rw [hW1, ← hs0]; exact ((Boxed.new W0 _ v).alloc _).alloc _
        have b1 : Boxed W1 (W.heap.size + 1) 3 (natC n) := by
          rw [hW1, ← hs0]
          have := (Boxed.new (W0.alloc (.cells #[v] 53)) 3 (natC n)).alloc (.cells #[natC 0] 3)
          rwa [World.size_alloc] at this
        have b2 : Boxed W1 (W.heap.size + 1 + 1) 3 (natC 0) := by
          rw [hW1, ← hs0]
          have := Boxed.new ((W0.alloc (.cells #[v] 53)).alloc (.cells #[natC n] 3)) 3 (natC 0)
          rwa [World.size_alloc, World.size_alloc] at this
        have hs1 : W1.heap.size = W0.heap.size + 3 := by rw [hW1]; simp
        rw [← hW1]
        clear hW1
        have hV1 := hV0.turn hg1 (fun r e => by cases e) (by omega)
        have hF1 : Flags W1 gs (seen.set n true) := blk_turn hF0 hg1 (fun r e => by cases e)
        have hgW1 : W.grownBy W1 (some gs) := hg0.trans (hg1.but _)
        refine wpIn_rangeFunc_ownG rfl (by decide) (gf := 64) rfl trivial (enters_of Try.func64 (by kernel_rfl) rfl)
          (of_stops 8 (by decide) W.heap.size B0 v S n 0 hn (by omega) (by have := hSl n; omega) W1 b0 b1 b2 hV1.r (by omega)) kpB_t (kpB_b (by omega) (by omega)) (Below.refl _ _) (fun _ => rfl)
          (fun pre W' => ∃ sn, VisL S (seen.set n true) (valsOf pre) sn ∧ Flags W' gs sn ∧ VisW W' B0 Bs Bn Bv gs v S ∧ W1.grownBy W' (some gs)) (fun _ _ _ => False) ?hI (fun _ _ _ _ _ h _ _ => h) ?h0
          (fun x => { tmps := #[natC n, .pointer (some ⟨Bn, 0, none⟩), .pointer (some ⟨Bs, 0, none⟩), .pointer (some ⟨Bv, 0, none⟩), undef, natC x.1, .slice (some ⟨gs, 0, none⟩) S.length S.length, natC n, .pointer (some ⟨gs, n, none⟩), .bool false,
              .slice (some ⟨gs, 0, none⟩) S.length S.length, natC n, .pointer (some ⟨gs, n, none⟩), v, natC n, .func (.func 64) #[] #[.pointer (some ⟨W.heap.size, 0, none⟩), .pointer (some ⟨W.heap.size + 1, 0, none⟩), .pointer (some ⟨W.heap.size + 1 + 1, 0, none⟩)], natC x.1, undef, undef, undef], defers := [] }) ?assign ?body ?done ?stop
        case hI =>
          intro pre X Y row h hg hr
          obtain ⟨sn, h1, h2, h3, h4⟩ := h
          exact ⟨sn, h1, blk_turn h2 hg (fun r e => (hr r e).2), h3.turn hg (fun r e => ⟨by have := (hr r e).1; omega, (hr r e).2⟩) (by have := h4.size; omega), ownFrom_grown (β := Unit) (Nat.le_refl _) () X Y row h4 hg hr⟩
        case h0 => exact ⟨_, VisL.nil _ _, hF1, hV1, World.grownBy.refl _ _⟩
        case assign =>
          intro l x W2 K hK
          simp only [encOf]
          gi_wp2
          exact hK
        case body =>
          rintro l pre x W2 ⟨sn, hvl, hF2, hV2, hg2⟩ _
          have hxk : x.1 ∈ S.getD n [] := by
            have := x.2
            unfold ofL at this
            exact (List.mem_filter.1 this).1
          have hs2 := hg2.size
          have hlen : sn.length = S.length := by have := hvl.1.1; rw [List.length_set] at this; omega
          have hun : unseen sn ≤ m := by have := hvl.1.left; omega
          have hcall := IH.out sn x.1 W2 hun hlen (hSk n _ hxk) (by omega) hV2 hF2
          have hcc := hV2.c.cell
          have HV2 := Lib.hid hV2
          have HVL := Lib.hid hvl
          have HG2 := Lib.hid hg2
          have HF2 := Lib.hid hF2
          have HCALL := Lib.hid hcall
          clear hV2 hvl hg2 hF2 hcall
          gi_wp2_with fail
          refine ⟨trivial, ?_⟩
          refine (CallsIn.inRound l (callsIn_wide.2 HCALL.out)).mono ?_
          rintro e W3 ⟨rfl, sn', hv3, hF3, hg3⟩
          gi_wp2_with fail
          refine ⟨(KeepsOthers.of_grownBy hg3 (fun j o ej hj => by cases ej; rw [show W2.heap[gs]? = _ from HF2.out] at hj; cases hj; rfl)).from _, ⟨hg3.block _ (by omega) (by simp; omega), (Below.refl B0 W2).grown hg3 (by omega) (fun k e => by cases e; exact d4)⟩, sn', by rw [valsOf_snoc]; exact HVL.out.snoc hv3, hF3, HV2.out.kept hg3 d1 d2 d3 d4 (by omega), HG2.out.trans hg3⟩
        case done =>
          rintro D xs W2 hD hxs ⟨sn, hvl, hF2, hV2, hg2⟩ hK
          gi_wp2
          refine ⟨by simp, .inl ⟨_, _, rfl, run_takeDeferred hK, ?_⟩⟩
          have hput := grownBy_putObj' W2 D (.deferred none)
          have hrow : ∀ r, some D = some r → ∃ o : Obj, W2.heap[r]? = some o ∧ o.isCells = false := fun r e => by cases e; exact ⟨_, hK, rfl⟩
          refine ⟨_, results_none rfl _ _ _, rfl, sn, VisR.done HB.out ?_, blk_turn hF2 hput hrow, ?_⟩
          · rw [hxs] at hvl
            unfold ofL at hvl
            rw [List.filter_eq_self.2 (by simp)] at hvl
            exact hvl
          · exact (hgW1.trans hg2).andThen hput (fun j e => .inl (by cases e; omega))
        case stop =>
          rintro D c pre W2 hD _ h _
          exact h.elim
end Go.Proofs.Ytlcgbkeggmaljaa

namespace Go.Proofs.Ytlcgbkeggmaljaa
set_option linter.unusedVariables false
set_option linter.unusedSimpArgs false
open Go Go.RowKit

/-- the nodes that are marked. -/
def marked (l : List Bool) : List Nat := (List.range l.length).filter fun i => l.getD i false
theorem mem_marked {l : List Bool} {k : Nat} : k ∈ marked l ↔ l[k]? = some true := by
  unfold marked
  rw [List.mem_filter, List.mem_range, List.getD_eq_getElem?_getD]
  constructor
  · rintro ⟨h, h2⟩
    rw [List.getElem?_eq_getElem h] at h2 ⊢
    simpa using h2
  · intro h
    have hl := (List.getElem?_eq_some_iff.1 h).1
    rw [h]
    exact ⟨hl, rfl⟩
theorem marked_sorted (l : List Bool) : (marked l).Pairwise (· < ·) := List.Pairwise.filter _ List.pairwise_lt_range
theorem marked_take (l : List Bool) (k : Nat) (h : k < l.length) : (List.range (k + 1)).filter (fun i => l.getD i false) = if l[k] = true then (List.range k).filter (fun i => l.getD i false) ++ [k] else (List.range k).filter (fun i => l.getD i false) := by
  rw [List.range_succ, List.filter_append]
  have e : l.getD k false = l[k] := by rw [List.getD_eq_getElem?_getD, List.getElem?_eq_getElem h]; rfl
  by_cases hk : l[k] = true
  · rw [if_pos hk, List.filter_cons_of_pos (by rw [e]; exact hk)]; rfl
  · rw [if_neg hk, List.filter_cons_of_neg (by rw [e]; exact hk)]; simp

/-- what is reached from some nodes. -/
def ReachS (N : Nat) (es : List (Int × Int)) (from_ : List Int) (l : List Nat) : Prop := l.Pairwise (· < ·) ∧ ∀ k, k ∈ l ↔ k < N ∧ ∃ a : Nat, (a : Int) ∈ from_ ∧ Rch (sucs N es) a k
theorem visL_bound {S : List (List Nat)} {n : Nat} {pre : List Nat} {sn : List Bool} (h : VisL S (List.replicate n false) pre sn) : sn.length = n := by rw [← h.1.1, List.length_replicate]
theorem visL_closed {S : List (List Nat)} {n : Nat} {pre : List Nat} {sn : List Bool} (h : VisL S (List.replicate n false) pre sn) {a b : Nat} (hr : Rch S a b) (ha : sn[a]? = some true) : sn[b]? = some true := by
  have hnf : ∀ a, (List.replicate n false)[a]? ≠ some true := fun a e => by
    have := List.eq_of_mem_replicate (List.mem_of_getElem? e)
    cases this
  induction hr with
  | refl => exact ha
  | step hb _ ih => exact ih ((h.2.2 _ ha (hnf _)).2 _ hb)
theorem reachS_of {N : Nat} {es : List (Int × Int)} {from_ : List Int} {fn : List Nat} {sn : List Bool} (hf : from_ = fn.map Int.ofNat) (h : VisL (sucs N es) (List.replicate N false) fn sn) : ReachS N es from_ (marked sn) := by
  subst hf
  refine ⟨marked_sorted _, fun k => ?_⟩
  rw [mem_marked]
  constructor
  · intro hk
    obtain ⟨⟨a, ha, hr⟩, _⟩ := h.2.2 k hk (fun e => by cases List.eq_of_mem_replicate (List.mem_of_getElem? e))
    refine ⟨?_, a, List.mem_map.2 ⟨a, ha, rfl⟩, hr⟩
    have := (List.getElem?_eq_some_iff.1 hk).1
    rwa [visL_bound h] at this
  · rintro ⟨_, a, ha, hr⟩
    obtain ⟨b, hb, e⟩ := List.mem_map.1 ha
    have : b = a := Int.ofNat.inj e
    subst this
    exact visL_closed h hr (h.2.1 _ hb)

set_option maxRecDepth 100000 in
set_option maxHeartbeats 4000000 in
theorem Reach_no (a : Option Addr) (N c : Nat) (ev lv : Value) (es : List (Int × Int)) (l : List Int) (w : World) (hes : es.length ≤ 1000000000000) (hE : EdgesOf w.heap.size ev es w) (hll : l.length ≤ 1000000000) (hL : RowOf intC w.heap.size lv l w) (hno : (validG N es && l.all (nodeB N)) = false) :
    Calls Try.prog 13 #[.agg #[.slice a N c, ev], lv] w fun e w' => e = .returned (.slice none 0 0) ∧ Below w.heap.size w w' := by
  have hb1 : Below w.heap.size w (w.alloc (.cells #[.slice a N c, ev] 25)) := (Below.refl _ _).alloc (Nat.le_refl _) _
  have hx := exist_any a N c ev lv es l _ hes ((hE.below hb1 (Nat.le_refl _)).mono hb1.size) hll ((hL.below hb1 (Nat.le_refl _)).mono hb1.size)
  rw [hno] at hx
  have HX := Lib.hid hx
  have HB1 := Lib.hid hb1
  obtain ⟨ao, ec, rfl, _⟩ := hE
  obtain ⟨la, lc, rfl, _⟩ := rowOf_open hL
  clear hx hb1 hno hL
  go_enter Try.func13, Try.ntmps13
  go_wp2_with fail
  refine HX.out.mono ?_
  rintro e w1 ⟨rfl, hb⟩
  go_wp2_with fail
  go_ret
  exact ⟨rfl, HB1.out.trans (hb.mono (by simp))⟩

set_option maxRecDepth 100000 in
set_option maxHeartbeats 4000000 in
theorem Reach_yes (a : Option Addr) (N c : Nat) (ev lv : Value) (es : List (Int × Int)) (fn : List Nat) (w : World) (hE : EdgesOf w.heap.size ev es w) (hll : fn.length ≤ 1000000000) (hL : RowOf intC w.heap.size lv (fn.map Int.ofNat) w) (hv : validG N es = true) (hn : ∀ k ∈ fn, k < N) :
    Calls Try.prog 13 #[.agg #[.slice a N c, ev], lv] w fun e w' => ∃ v l, e = .returned v ∧ ReachS N es (fn.map Int.ofNat) l ∧ w'.ownsRow w.heap.size 3 1 v l.length (l.map natC) ∧ Below w.heap.size w w' := by
  obtain ⟨hN, hes⟩ := validG_n hv
  have hb1 : Below w.heap.size w (w.alloc (.cells #[.slice a N c, ev] 25)) := (Below.refl _ _).alloc (Nat.le_refl _) _
  have hall : (fn.map Int.ofNat).all (nodeB N) = true := by
    rw [List.all_eq_true]
    intro x hx
    obtain ⟨k, hk, rfl⟩ := List.mem_map.1 hx
    have := hn k hk
    unfold nodeB
    exact decide_eq_true ⟨Int.natCast_nonneg k, by show ((k : Nat) : Int) < N; omega⟩
  have hx := exist_any a N c ev lv es (fn.map Int.ofNat) _ (by omega) ((hE.below hb1 (Nat.le_refl _)).mono hb1.size) (by simpa using hll) ((hL.below hb1 (Nat.le_refl _)).mono hb1.size)
  rw [hv, hall] at hx
  have HX := Lib.hid hx
  have HB1 := Lib.hid hb1
  have HE := Lib.hid hE
  obtain ⟨ao, ec, rfl, _⟩ := hE
  have hL2 := hL
  obtain ⟨la, lc, rfl, hL3⟩ := rowOf_open hL
  rw [List.length_map] at *
  have HL := Lib.hid hL3
  have HV := Lib.hid hv
  have HN := Lib.hid hn
  have hmk := make_bools N (by omega)
  clear hx hb1 hL hL2 hL3 hall hv hn
  go_enter Try.func13, Try.ntmps13
  go_wp2_with fail
  refine HX.out.mono ?_
  rintro e w1 ⟨rfl, hb⟩
  have hs1 := hb.size
  simp at hs1
  have hg0 : w1.cell? ⟨w.heap.size, 0, none⟩ = some (.slice a N c) := (hb.cell (p := ⟨w.heap.size, 0, none⟩) (by show w.heap.size < _; simp)).trans (cell_of_row _ _ 0 _ _ _ (World.alloc_heap_new w _))
  have hg1 : w1.cell? ⟨w.heap.size, 1, none⟩ = some (.slice ao es.length ec) := (hb.cell (p := ⟨w.heap.size, 1, none⟩) (by show w.heap.size < _; simp)).trans (cell_of_row _ _ 1 _ _ _ (World.alloc_heap_new w _))
  have HW1 := Lib.hid (HB1.out.trans (hb.mono (by simp)))
  have hns := newSucc_any a c N _ es w1 ((HE.out.below HW1.out (Nat.le_refl _)).mono (by omega)) HV.out
  have HNS := Lib.hid hns
  clear hb hns
  go_wp2_with fail
  refine HNS.out.mono ?_
  rintro e w2 ⟨v, vs, rfl, hgrid, hb2⟩
  have hs2 := hb2.size
  have hrows := hgrid.rows
  obtain ⟨va, vc, hvv⟩ := hgrid.shape
  rw [List.length_map, sucs_length] at hvv
  subst hvv
  have HR := Lib.hid hrows
  have HW2 := Lib.hid (HW1.out.trans (hb2.mono (by omega)))
  clear hrows hgrid hb2 HNS HW1 hg0 hg1
  go_wp2_with fail
  obtain ⟨W3, hW3⟩ : ∃ W3, W3 = (((w2.alloc (.cells #[.slice va N vc] 53)).alloc (.cells (Array.replicate N (.bool false)) 4)).alloc (.cells #[.slice (some ⟨w2.heap.size + 1, 0, none⟩) N N] 55)).alloc
    (.cells #[.func (.func 41) #[] #[.pointer (some ⟨w2.heap.size + 1 + 1, 0, none⟩), .pointer (some ⟨w2.heap.size, 0, none⟩), .pointer (some ⟨w2.heap.size + 1 + 1 + 1, 0, none⟩)]] 56) := ⟨_, rfl⟩
  have hB3 : Below w2.heap.size w2 W3 := by rw [hW3]; exact (((((Below.refl _ _).alloc (Nat.le_refl _) _).alloc (by simp) _).alloc (by simp; omega) _).alloc (by simp; omega) _)
  have hs3 : W3.heap.size = w2.heap.size + 4 := by rw [hW3]; simp
  have hV3 : VisW W3 w2.heap.size w2.heap.size (w2.heap.size + 1 + 1) (w2.heap.size + 1 + 1 + 1) (w2.heap.size + 1) (.slice va N vc) (sucs N es) := by
    refine ⟨?_, ?_, ?_, HR.out.below hB3 (Nat.le_refl _)⟩
    · rw [hW3]; exact (((Boxed.new w2 _ _).alloc _).alloc _).alloc _
    · rw [hW3]
      have := (Boxed.new ((w2.alloc (.cells #[.slice va N vc] 53)).alloc (.cells (Array.replicate N (.bool false)) 4)) 55 (.slice (some ⟨w2.heap.size + 1, 0, none⟩) N N)).alloc (.cells #[.func (.func 41) #[] #[.pointer (some ⟨w2.heap.size + 1 + 1, 0, none⟩), .pointer (some ⟨w2.heap.size, 0, none⟩), .pointer (some ⟨w2.heap.size + 1 + 1 + 1, 0, none⟩)]] 56)
      rw [World.size_alloc, World.size_alloc] at this
      rw [sucs_length]
      exact this
    · rw [hW3]
      have := Boxed.new (((w2.alloc (.cells #[.slice va N vc] 53)).alloc (.cells (Array.replicate N (.bool false)) 4)).alloc (.cells #[.slice (some ⟨w2.heap.size + 1, 0, none⟩) N N] 55)) 56 (.func (.func 41) #[] #[.pointer (some ⟨w2.heap.size + 1 + 1, 0, none⟩), .pointer (some ⟨w2.heap.size, 0, none⟩), .pointer (some ⟨w2.heap.size + 1 + 1 + 1, 0, none⟩)])
      rw [World.size_alloc, World.size_alloc, World.size_alloc] at this
      exact this
  have hF3 : Flags W3 (w2.heap.size + 1) (List.replicate N false) := by
    rw [hW3]
    unfold Flags
    refine (Below.heap_alloc _ _ _ (by simp)).trans ((Below.heap_alloc _ _ _ (by simp)).trans ?_)
    have := World.alloc_heap_new (w2.alloc (.cells #[.slice va N vc] 53)) (.cells (Array.replicate N (.bool false)) 4)
    rw [World.size_alloc] at this
    rw [this]
    simp
  rw [← hW3]
  clear hW3
  have HV3 := Lib.hid hV3
  have HF3 := Lib.hid hF3
  have HB3 := Lib.hid hB3
  clear hV3 hF3 hB3 hmk
  have hfn : (fn.length : Int) ≤ 1000000000 := by omega
  go_loopw [25] (fun p wr => ∃ (k : Nat) (sn : List Bool), k ≤ fn.length ∧ p = .int .i64 k ∧ Hid (VisL (sucs N es) (List.replicate N false) (fn.take k) sn) ∧ Hid (Flags wr (w2.heap.size + 1) sn) ∧ Hid (VisW wr w2.heap.size w2.heap.size (w2.heap.size + 1 + 1) (w2.heap.size + 1 + 1 + 1) (w2.heap.size + 1) (.slice va N vc) (sucs N es)) ∧ Hid (W3.grownBy wr (some (w2.heap.size + 1)))) (fun p _ => fn.length - (intOf p).toNat)
  case atStart => exact ⟨0, _, by omega, rfl, Lib.hid (VisL.nil _ _), HF3, HV3, Lib.hid (World.grownBy.refl _ _)⟩
  case round =>
    clear HV3 HF3
    obtain ⟨k, sn, hk, rfl, HVL, HF, HVW, HG⟩ := hrel
    have hsr := HG.out.size
    have HBR : Hid (Below w2.heap.size w2 wr) := Lib.hid (HB3.out.grown HG.out (by omega) (fun j e => by cases e; omega))
    by_cases hlt : k < fn.length
    · obtain ⟨b, off, rfl, hb, hc⟩ := HL.out k (Int.ofNat fn[k]) (by rw [List.getElem?_map, List.getElem?_eq_getElem hlt]; rfl)
      have hc1 : wr.cell? ⟨b, off + k, none⟩ = some (natC fn[k]) := ((HW2.out.trans (HBR.out.mono (by omega))).cell (p := ⟨b, off + k, none⟩) hb).trans hc
      have HT : Hid (fn.take (k + 1) = fn.take k ++ [fn[k]]) := Lib.hid (List.take_succ_eq_append_getElem hlt)
      have hnk := HN.out _ (List.getElem_mem hlt)
      generalize fn[k] = n at *
      have hcc := HVW.out.c.cell
      have hcall := visit_any w2.heap.size w2.heap.size (w2.heap.size + 1 + 1) (w2.heap.size + 1 + 1 + 1) (w2.heap.size + 1) (.slice va N vc) (sucs N es) (by rw [sucs_length]; omega)
        (fun a => by
          by_cases ha : a < N
          · rw [sucs_getD _ _ _ ha]; have := sucL_length N es a; omega
          · rw [List.getD_eq_getElem?_getD, List.getElem?_eq_none (by rw [sucs_length]; omega)]; simp)
        (fun a k hk => by
          rw [sucs_length]
          by_cases ha : a < N
          · rw [sucs_getD _ _ _ ha] at hk; exact (mem_sucL.1 hk).1
          · rw [List.getD_eq_getElem?_getD, List.getElem?_eq_none (by rw [sucs_length]; omega)] at hk; simp at hk)
        (by omega) (by omega) (by omega) (by omega) (unseen sn) sn n wr (Nat.le_refl _) (by rw [visL_bound HVL.out, sucs_length]) (by rw [sucs_length]; exact hnk) (by omega) HVW.out HF.out
      have HCALL := Lib.hid hcall
      clear hc hcall
      go_wp2_with fail
      refine HCALL.out.mono ?_
      rintro e w4 ⟨rfl, sn', hv4, hF4, hg4⟩
      go_wp2_with fail
      go_roundw
      case rel => exact ⟨k + 1, sn', by omega, by go_num, Lib.hid (by rw [HT.out]; exact HVL.out.snoc hv4), Lib.hid hF4, Lib.hid (HVW.out.kept hg4 (by omega) (by omega) (by omega) (by omega) (by omega)), Lib.hid (HG.out.trans hg4)⟩
      case measure => simp [intOf]; omega
    · have hkk : k = fn.length := by omega
      subst hkk
      rw [List.take_length] at HVL
      have hcs := HVW.out.f.cell
      rw [sucs_length] at hcs
      have hsl := visL_bound HVL.out
      go_wp2_with fail
      obtain ⟨i0, hi0', hz0, hz1, hz2⟩ := info_parts info_ints
      obtain ⟨wo, rfl⟩ : ∃ wo : World, wo = wr := ⟨_, rfl⟩
      go_loopw [10, 35] (fun o p wr => ∃ k : Nat, k ≤ N ∧ p = .int .i64 k ∧ Hid (wr.ownsRow w.heap.size 3 1 o ((List.range k).filter fun i => sn.getD i false).length (((List.range k).filter fun i => sn.getD i false).map natC)) ∧ Hid (Flags wr (w2.heap.size + 1) sn) ∧ Hid (Below w.heap.size w wr)) (fun _ p _ => N - (intOf p).toNat)
      case atStart => exact ⟨0, by omega, rfl, Lib.hid (World.ownsRow_nil _ _ _ _), HF, Lib.hid (HW2.out.trans (HBR.out.mono (by omega)))⟩
      case round =>
        clear HF HVW HG HBR hcs
        obtain ⟨k, hk, rfl, HO, HF, HB⟩ := hrel
        by_cases hlt : k < N
        · have hsk : k < sn.length := by omega
          have hc1 := HF.out.cell k sn[k] (by simp [hsk])
          have HM := Lib.hid (marked_take sn k hsk)
          have hsb := HB.out.size
          have hle : ((List.range k).filter fun i => sn.getD i false).length ≤ k := by
            have := List.length_filter_le (fun i => sn.getD i false) (List.range k)
            simpa using this
          generalize sn[k] = b at *
          cases b with
          | true =>
            have HM2 : Hid ((List.range (k + 1)).filter (fun i => sn.getD i false) = (List.range k).filter (fun i => sn.getD i false) ++ [k]) := Lib.hid (by rw [HM.out, if_pos rfl])
            generalize (List.range k).filter (fun i => sn.getD i false) = lk at *
            go_wp2_with (at_builtin; refine wpList_append_own _ rfl _ _ 26 rfl w.heap.size 3 i0 _ 1 8 Try.underlying26 hi0' hz0 hz1 hz2 rfl (by decide) _ _ _ (by rfl) (HO.out.alloc _) ⟨wr.heap.size, 0, none⟩ 1 1 [natC k] (by rfl) (by rfl) (World.news_of_block (cs := #[natC k]) (t := 3) (fr := (0, 0)) (heap_alloc_new wr _)) (by simp [Value.oneCell']) (by unfold maxLen; omega) (by omega) (by simp; omega) ?_; intro v' w5 hown' hgrow _)
            go_roundw
            case rel =>
              refine ⟨k + 1, by omega, by go_num, Lib.hid (by rw [HM2.out, List.length_append, List.map_append]; exact hown'), Lib.hid ?_, Lib.hid ((HB.out.alloc hsb _).grown hgrow (by simp; omega) (fun j hj => (HO.out.lt j hj).1))⟩
              refine (hgrow.block _ ?_ (blk_ne HF.out HO.out (by decide))).trans ((Below.heap_alloc _ _ _ (Array.getElem?_eq_some_iff.1 HF.out).1).trans HF.out)
              have := (Array.getElem?_eq_some_iff.1 HF.out).1
              simp
              omega
            case measure => simp [intOf]; omega
          | false =>
            go_wp2_with fail
            go_roundw
            case rel => exact ⟨k + 1, by omega, by go_num, Lib.hid (by rw [HM.out, if_neg (by simp)]; exact HO.out), HF, HB⟩
            case measure => simp [intOf]; omega
        · have hkk : k = N := by omega
          subst hkk
          go_wp2_with fail
          go_ret
          refine ⟨_, marked sn, rfl, reachS_of rfl HVL.out, ?_, HB.out⟩
          unfold marked
          rw [hsl]
          exact HO.out
end Go.Proofs.Ytlcgbkeggmaljaa

namespace Go.Proofs.Ytlcgbkeggmaljaa
set_option linter.unusedVariables false
set_option linter.unusedSimpArgs false
open Go Go.RowKit

/-- a slice of one-cell elements in a block from B on. -/
def Seg (W : World) (B : Nat) (e : TypeId) (v : Value) (xs : List Value) : Prop :=
  (v = .slice none 0 0 ∧ xs = []) ∨ ∃ g off cap cur, v = .slice (some ⟨g, off, none⟩) xs.length cap ∧ B ≤ g ∧ W.heap[g]? = some (.cells cur e (0, 0)) ∧ xs.length ≤ cap ∧ off + cap ≤ cur.size ∧ ∀ j x, xs[j]? = some x → cur[off + j]? = some x
theorem Seg.lt {W : World} {B : Nat} {e : TypeId} {v : Value} {xs : List Value} (h : Seg W B e v xs) : ∀ k, v.ownBlock = some k → B ≤ k ∧ k < W.heap.size := by
  intro k hk
  rcases h with ⟨rfl, _⟩ | ⟨g, off, cap, cur, rfl, hb, hg, _⟩
  · simp [Value.ownBlock] at hk
  · simp [Value.ownBlock] at hk
    subst hk
    exact ⟨hb, (Array.getElem?_eq_some_iff.1 hg).1⟩
theorem Seg.far {W W' : World} {B : Nat} {e : TypeId} {v : Value} {xs : List Value} (h : Seg W B e v xs) (hk : ∀ k, v.ownBlock = some k → W'.heap[k]? = W.heap[k]?) : Seg W' B e v xs := by
  rcases h with h | ⟨g, off, cap, cur, rfl, hb, hg, r⟩
  · exact .inl h
  · exact .inr ⟨g, off, cap, cur, rfl, hb, (hk g rfl).trans hg, r⟩
theorem Seg.shape {W : World} {B : Nat} {e : TypeId} {v : Value} {xs : List Value} (h : Seg W B e v xs) : ∃ a c, v = .slice a xs.length c := by
  rcases h with ⟨rfl, rfl⟩ | ⟨g, off, cap, cur, rfl, _⟩
  · exact ⟨none, 0, rfl⟩
  · exact ⟨_, _, rfl⟩
theorem seg_ne {W : World} {b B t e : Nat} {cs : Array Value} {f : Nat × Nat} {v : Value} {xs : List Value} (hb : W.heap[b]? = some (.cells cs t f)) (h : Seg W B e v xs) (ht : t ≠ e) : some b ≠ v.ownBlock := by
  rcases h with ⟨rfl, _⟩ | ⟨g, off, cap, cur, rfl, _, hg, _⟩
  · simp [Value.ownBlock]
  · intro h3
    simp [Value.ownBlock] at h3
    subst h3
    rw [hb] at hg
    simp at hg
    exact ht hg.2.1
theorem Seg.of_own {W : World} {B e n : Nat} {v : Value} {xs : List Value} (h : W.ownsRow B e 1 v n xs) : Seg W B e v xs := by
  have hl : xs.length = n := by have := h.1; omega
  subst hl
  rcases h.2 with ⟨rfl, h0⟩ | ⟨g, cap, cur, rfl, hb, hg, hc, _, hs, ht⟩
  · exact .inl ⟨rfl, List.length_eq_zero_iff.1 h0⟩
  · refine .inr ⟨g, 0, cap, cur, rfl, hb, hg, hc, by omega, fun j x hx => ?_⟩
    have hj := (List.getElem?_eq_some_iff.1 hx).1
    rw [Nat.zero_add, ← Array.getElem?_toList, ← hx]
    conv => rhs; rw [← ht]
    rw [List.getElem?_take_of_lt (by omega)]
/-- the first element and the rest. -/
theorem Seg.head {W : World} {B : Nat} {e : TypeId} {v : Value} {x : Value} {xs : List Value} (h : Seg W B e v (x :: xs)) :
    ∃ g off cap a, v = .slice (some ⟨g, off, none⟩) (xs.length + 1) (cap + 1) ∧ W.cell? ⟨g, off, none⟩ = some x ∧ Seg W B e (.slice a xs.length cap) xs ∧ (if cap = 0 then some ⟨g, off, none⟩ else some ⟨g, off + 1, none⟩) = a ∧ (Value.slice a xs.length cap).ownBlock = v.ownBlock := by
  rcases h with ⟨_, h⟩ | ⟨g, off, cap, cur, rfl, hb, hg, hc, hs, hr⟩
  · cases h
  · simp only [List.length_cons] at hc
    obtain ⟨cap, rfl⟩ : ∃ c, cap = c + 1 := ⟨cap - 1, by omega⟩
    have hcx : W.cell? ⟨g, off, none⟩ = some x := by rw [cell_of_row _ _ _ _ _ _ hg]; exact hr 0 x rfl
    by_cases h1 : cap + 1 = 1
    · have h0 : cap = 0 := by omega
      subst h0
      have : xs = [] := List.length_eq_zero_iff.1 (by omega)
      subst this
      exact ⟨g, off, 0, _, rfl, hcx, .inr ⟨g, off, 0, cur, rfl, hb, hg, by simp, by omega, fun j x hx => by simp at hx⟩, by simp, rfl⟩
    · refine ⟨g, off, cap, _, rfl, hcx, .inr ⟨g, off + 1, cap, cur, rfl, hb, hg, by omega, by omega, fun j y hy => ?_⟩, by rw [if_neg (by omega)], rfl⟩
      have := hr (j + 1) y (by simpa using hy)
      rwa [show off + 1 + j = off + (j + 1) by omega]

theorem run_append_seg {P : Program} (w : World) (t ty e : TypeId) (i : TypeInfo) (z : Value) (bytes : Nat) (ht : P.underlying t = some (.slice e)) (hi : P.info? e = some i) (hz : i.zero = some z) (hsize : i.size = 1) (hby : i.bytes = bytes) (hzs : z.cells.size = 1)
    (B : Nat) (v : Value) (xs : List Value) (h : Seg w B e v xs) (hB : B ≤ w.heap.size) (x : Value) (a : Addr) (c : Nat) (hx : w.cell? a = some x) (h1 : x.oneCell' = true) (hl : xs.length + 1 ≤ 1000000000) (hb : bytes ≤ 1000) :
    ∃ v' w', (Builtin.append_ #[t, t] ty #[v, .slice (some a) 1 c]).run P w = .ok v' w' ∧ Seg w' B e v' (xs ++ [x]) ∧ w.grownBy w' v.ownBlock ∧ (v'.ownBlock = v.ownBlock ∨ ∀ k, v'.ownBlock = some k → w.heap.size ≤ k) := by
  have hbytes : (xs.length + 1) * bytes ≤ 140737488355328 := Nat.le_trans (Nat.mul_le_mul hl hb) (by decide)
  have hnews : ∀ j u, [x][j]? = some u → w.cell? (a.add j) = some u := fun j u hu => by
    cases j with
    | zero =>
      simp at hu
      subst hu
      have : a.add 0 = a := by unfold Addr.add; split <;> simp_all
      rw [this]; exact hx
    | succ j => simp at hu
  rcases h with ⟨rfl, rfl⟩ | ⟨g, off, cap, cur, rfl, hbg, hg, hc, hs, hr⟩
  · obtain ⟨v', w', hrun, ho, hgr, _⟩ := run_append_own (P := P) w w.heap.size t ty e i z 1 bytes ht hi hz hsize hby hzs (by decide) (.slice none 0 0) 0 [] (World.ownsRow_nil _ _ _ _) a 1 c [x] rfl hnews (by simpa using h1) (by unfold maxLen; omega) (by simpa using hbytes) (Nat.le_refl _)
    exact ⟨v', w', hrun, Seg.of_own ⟨ho.1, ho.2.imp id fun ⟨g, cap, cur, h1, h2, h3⟩ => ⟨g, cap, cur, h1, Nat.le_trans hB h2, h3⟩⟩, hgr, .inr fun k hk => (ho.lt k hk).1⟩
  · by_cases hroom : xs.length + 1 ≤ cap
    · have hrun := run_append_room_cells (P := P) w t ty e i ht hi g off xs.length cap a 1 c [x] (by rw [hsize]; rfl) hnews (by simpa using h1) hroom
        (fun j hj => by
          have : j = 0 := by simpa using hj
          subst this
          rw [hsize, cell_of_row _ _ _ _ _ _ hg]
          simp
          omega)
        (fun j hj => frozen_of_row _ _ _ _ _ hg)
      rw [hsize, Nat.mul_one] at hrun
      refine ⟨_, _, hrun, .inr ⟨g, off, cap, _, by rw [List.length_append]; rfl, hbg, heap_setCell_same w g (off + xs.length) cur e x hg, by simpa using hroom, by simpa using hs, fun j y hy => ?_⟩, ?_⟩
      · by_cases hj : j < xs.length
        · rw [List.getElem?_append_left hj] at hy
          rw [Array.getElem?_setIfInBounds_ne (by omega)]
          exact hr j y hy
        · rw [List.getElem?_append_right (by omega)] at hy
          have : j = xs.length := by
            have := (List.getElem?_eq_some_iff.1 hy).1
            simp at this
            omega
          subst this
          simp at hy
          subst hy
          rw [Array.getElem?_setIfInBounds_self_of_lt (by omega)]
      · exact ⟨⟨rfl, rfl, rfl, by simp [World.setCells], fun k _ hk => heap_setCell_other w ⟨g, off + xs.length, none⟩ k x (fun e => hk (by simp [Value.ownBlock, e]))⟩, .inl rfl⟩
    · obtain ⟨v', w', hrun, ho, hgr⟩ := run_append_arg_grows (P := P) w t ty e i z 1 bytes ht hi hz hsize hby hzs (by decide) ⟨g, off, none⟩ xs.length cap xs (by simp)
        (fun j u hu => by
          have e : ((⟨g, off, none⟩ : Addr).add j) = ⟨g, off + j, none⟩ := by unfold Addr.add; split <;> simp_all
          rw [e, cell_of_row _ _ _ _ _ _ hg]
          exact hr j u hu) a 1 c [x] rfl hnews (by omega) (by unfold maxLen; omega) hbytes
      refine ⟨v', w', hrun, Seg.of_own ⟨ho.1, ho.2.imp id fun ⟨g, cap, cur, h1, h2, h3⟩ => ⟨g, cap, cur, h1, Nat.le_trans hB h2, h3⟩⟩, hgr.but _, .inr fun k hk => (ho.lt k hk).1⟩

/-- an append of one element, in a walk inside a fence. -/
theorem wpListIn_append_seg {F : Fence} {n : Nat} {P : Program} (w : World) {ops : Array Oper} {rest : List Oper} {o : Oper} {ac : Act} {Q : Exit → Act → World → Prop}
    (hg : o.guard = none) (s x : Operand) (t : TypeId) (hop : o.op = Op.call { callee := Callee.builtin Builtin.append, args := #[s, x], argTypes := #[t, t] })
    (e : TypeId) (i : TypeInfo) (z : Value) (bytes : Nat) (ht : P.underlying t = some (.slice e)) (hi : P.info? e = some i) (hz : i.zero = some z) (hsize : i.size = 1) (hby : i.bytes = bytes) (hzs : z.cells.size = 1)
    (B : Nat) (v : Value) (xs : List Value) (hs : ac.eval s = v) (h : Seg w B e v xs) (hB : B ≤ w.heap.size) (u : Value) (a : Addr) (c : Nat) (hx : ac.eval x = .slice (some a) 1 c) (hu : w.cell? a = some u) (h1 : u.oneCell' = true) (hl : xs.length + 1 ≤ 1000000000) (hb : bytes ≤ 1000)
    (hK : ∀ v' w', Seg w' B e v' (xs ++ [u]) → w.grownBy w' v.ownBlock → (v'.ownBlock = v.ownBlock ∨ ∀ k, v'.ownBlock = some k → w.heap.size ≤ k) → wpListIn F n P ops Q rest (ac.put o.dst v') w') :
    wpListIn F n P ops Q (o :: rest) ac w := by
  refine wpListIn_plain hg fun K hK' => ?_
  obtain ⟨v', w', hrun, r1, r2, r3⟩ := run_append_seg (P := P) w t o.type e i z bytes ht hi hz hsize hby hzs B v xs h hB u a c hu h1 hl hb
  unfold Oper.wpIn
  refine ⟨?_, ?_⟩
  · simp [Oper.about, hop, resolve, Target.leads, Sem.run_pure]
  · rw [Oper.semAt_plain F _ _ (by rw [hop]; intro c hc'; cases hc')]
    simp [execOp, hop, resolve, invoke, builtin, hs, hx, hrun, Result.andThen]
    exact hK' _ _ (hK v' w' r1 r2 r3)
end Go.Proofs.Ytlcgbkeggmaljaa

namespace Go.Proofs.Ytlcgbkeggmaljaa
set_option linter.unusedVariables false
set_option linter.unusedSimpArgs false
open Go Go.RowKit

/-- a loop whose rounds are counted. -/
theorem wpIn_loop_gas {F : Fence} {n : Nat} {P : Program} {Q : Exit → Act → World → Prop} {a : Act} {w : World} {c : Code} (I : Nat → Act → World → Prop) (m : Nat) (h0 : I m a w)
    (round : ∀ j a w, I j a w → c.wpIn F n P (Exit.then (fun a' w' => ∃ j', j' < j ∧ I j' a' w') Q) a w) : (Code.loop c).wpIn F n P Q a w := by
  have key : ∀ k j a w, j < k → I j a w → Code.roundsIn F n P c Q k a w := by
    intro k
    induction k with
    | zero => intro j a w h; omega
    | succ k ih =>
      intro j a w hj hI
      rw [roundsIn_succ]
      refine Code.wpIn_mono (fun e a' w' q => ?_) (round j a w hI)
      cases e <;> first | exact q | (obtain ⟨j', h1, h2⟩ := q; exact ih j' a' w' (by omega) h2)
  exact wpIn_loop_rounds (m + 1) (key _ _ _ _ (Nat.lt_succ_self m) h0)

/-- the marks of the ranges over a function that have ended. -/
def Marks (B : Nat) : List Deferred → World → Prop
  | [], _ => True
  | d :: ds, W => (∃ D, d = { target := .collected D, args := #[] } ∧ B ≤ D ∧ W.heap[D]? = some (.deferred (some [])) ∧ ∀ d' ∈ ds, ∀ D', d' = { target := .collected D', args := #[] } → D' < D) ∧ Marks B ds W
/-- whatever is no cells, from B on, is as it was. -/
def NoCells (B : Nat) (W W' : World) : Prop := ∀ k, B ≤ k → (∃ o : Obj, W.heap[k]? = some o ∧ o.isCells = false) → W'.heap[k]? = W.heap[k]?
theorem NoCells.of_keeps {B : Nat} {W W' : World} (h : KeepsFrom B W W') : NoCells B W W' := fun k hk ⟨o, ho, hc⟩ => (h.same k o hk ho hc).trans ho.symm
theorem Marks.keep {B : Nat} : ∀ {ds : List Deferred} {W W' : World}, Marks B ds W → NoCells B W W' → Marks B ds W'
  | [], _, _, _, _ => trivial
  | _ :: _, _, _, ⟨⟨D, h1, h2, h3, h4⟩, hr⟩, hk => ⟨⟨D, h1, h2, (hk D h2 ⟨_, h3, rfl⟩).trans h3, h4⟩, hr.keep hk⟩
theorem Marks.grown {B : Nat} {ds : List Deferred} {W W' : World} {row : Option Nat} (h : Marks B ds W) (hg : W.grownBy W' row) (hr : ∀ r, row = some r → ∃ o : Obj, W.heap[r]? = some o ∧ o.isCells = true) : Marks B ds W' :=
  h.keep (fun k _ ⟨o, ho, hc⟩ => hg.block k (Array.getElem?_eq_some_iff.1 ho).1 (fun e => by
    obtain ⟨o', ho', hc'⟩ := hr k e.symm
    rw [ho] at ho'
    cases ho'
    rw [hc] at hc'
    cases hc'))
theorem Marks.lt {B : Nat} : ∀ {ds : List Deferred} {W : World}, Marks B ds W → ∀ d ∈ ds, ∀ D, d = { target := .collected D, args := #[] } → D < W.heap.size
  | [], _, _, d, hd, _, _ => by cases hd
  | _ :: _, W, ⟨⟨D0, h1, _, h3, _⟩, hr⟩, d, hd, D, e => by
    rcases List.mem_cons.1 hd with rfl | hd
    · have e2 := h1.symm.trans e
      simp at e2
      subst e2
      exact (Array.getElem?_eq_some_iff.1 h3).1
    · exact hr.lt d hd D e
theorem Marks.push {B B2 D : Nat} {ds : List Deferred} {W W0 : World} (h : Marks B ds W) (h0 : Marks B ds W0) (hB : B ≤ B2) (hB2 : W0.heap.size ≤ B2) (hD : B2 ≤ D) (hK : W.heap[D]? = some (.deferred (some []))) : Marks B ({ target := .collected D, args := #[] } :: ds) W :=
  ⟨⟨D, rfl, by omega, hK, fun d hd D' e => by have := h0.lt d hd D' e; omega⟩, h⟩
theorem Marks.turn {B : Nat} : ∀ {ds : List Deferred} {Wl X Y : World} {row : Option Nat}, Marks B ds Wl → Marks B ds X → X.grownBy Y row → (∀ r, row = some r → Wl.heap.size ≤ r) → Marks B ds Y
  | [], _, _, _, _, _, _, _, _ => trivial
  | _ :: _, _, _, _, _, ⟨⟨D0, e0, _, h0, _⟩, hl⟩, ⟨⟨D, h1, h2, h3, h4⟩, hr⟩, hg, hrow => by
    refine ⟨⟨D, h1, h2, (hg.block D (Array.getElem?_eq_some_iff.1 h3).1 (fun e => ?_)).trans h3, h4⟩, Marks.turn hl hr hg hrow⟩
    have := hrow D e.symm
    have e2 := e0.symm.trans h1
    simp at e2
    subst e2
    have := (Array.getElem?_eq_some_iff.1 h0).1
    omega
/-- what the function's return does: the marks' blocks are shut, nothing else is turned. -/
structure Shut (B : Nat) (W W' : World) : Prop where
  os : W'.os = W.os
  tape : W'.tape = W.tape
  output : W'.output = W.output
  size : W'.heap.size = W.heap.size
  low : ∀ k, k < B → W'.heap[k]? = W.heap[k]?
  cells : ∀ (k : Nat) (o : Obj), W.heap[k]? = some o → o.isCells = true → W'.heap[k]? = some o
theorem Shut.refl (B : Nat) (W : World) : Shut B W W := ⟨rfl, rfl, rfl, rfl, fun _ _ => rfl, fun _ _ h _ => h⟩
theorem Shut.below {B B' : Nat} {W W' : World} (h : Shut B W W') (hB : B' ≤ B) : Below B' W W' := ⟨h.os, h.tape, h.output, by rw [h.size]; exact Nat.le_refl _, fun k hk => h.low k (by omega)⟩
theorem Shut.blk {B b t : Nat} {W W' : World} {cs : Array Value} {f : Nat × Nat} (h : Shut B W W') (hb : W.heap[b]? = some (.cells cs t f)) : W'.heap[b]? = some (.cells cs t f) := h.cells b _ hb rfl
theorem leave_marks {F : Fence} {n : Nat} {P : Program} {fn : Func} {tmps : Array Value} {R : Ending → World → Prop} {B : Nat} : ∀ {ds : List Deferred} {W W0 : World}, Marks B ds W → Shut B W0 W → (∀ W', Shut B W0 W' → ∃ v, (results fn tmps).run P W' = .ok v W' ∧ R (.returned v) W') → LeavesInM F n P fn tmps R ds .returning W
  | [], W, W0, _, hs, h => h W hs
  | d :: ds, W, W0, ⟨⟨D, hd, hB, hK, hu⟩, hr⟩, hs, h => by
    refine ⟨by simp, .inl ⟨D, _, by rw [hd], run_takeDeferred hK, ?_⟩⟩
    have hr2 : Marks B ds (W.putObj D (.deferred none)) := by
      have : ∀ (l : List Deferred), (∀ d' ∈ l, ∀ D', d' = { target := .collected D', args := #[] } → D' < D) → Marks B l W → Marks B l (W.putObj D (.deferred none)) := by
        intro l
        induction l with
        | nil => intro _ _; trivial
        | cons x l ih =>
          rintro hl ⟨⟨D1, h1, h2, h3, h4⟩, hm⟩
          have := hl x (by simp) D1 h1
          exact ⟨⟨D1, h1, h2, (World.putObj_heap_other (by omega)).trans h3, h4⟩, ih (fun d' hd' => hl d' (by simp [hd'])) hm⟩
      exact this ds hu hr
    refine leave_marks hr2 ⟨hs.os, hs.tape, hs.output, ?_, fun k hk => ?_, fun k o ho hc => ?_⟩ h
    · rw [← hs.size]; simp [World.putObj]
    · rw [World.putObj_heap_other (by omega)]; exact hs.low k hk
    · have h1 := hs.cells k o ho hc
      rw [World.putObj_heap_other (fun e => by subst e; rw [hK] at h1; cases h1; cases hc)]
      exact h1
end Go.Proofs.Ytlcgbkeggmaljaa

namespace Go.Proofs.Ytlcgbkeggmaljaa
set_option linter.unusedVariables false
set_option linter.unusedSimpArgs false
open Go Go.RowKit

/-- some integers in a block. -/
def Ints (W : World) (g : Nat) (l : List Int) : Prop := W.heap[g]? = some (.cells (l.map intC).toArray 3 (0, 0))
theorem Ints.cell {W : World} {g : Nat} {l : List Int} (h : Ints W g l) (i : Nat) (x : Int) (hb : l[i]? = some x) : W.cell? ⟨g, i, none⟩ = some (intC x) := by
  rw [cell_of_row _ _ _ _ _ _ h]
  simp [hb]
theorem Ints.set {W : World} {g : Nat} {l : List Int} (h : Ints W g l) (i : Nat) (x : Int) : Ints (W.setCell ⟨g, i, none⟩ (intC x)) g (l.set i x) := by
  have := heap_setCell_same W g i _ _ (intC x) h
  unfold Ints
  rw [this]
  simp [List.map_set]
theorem gD_get {d : List Int} {a : Nat} (h : a < d.length) : d[a]? = some (gD d a) := by
  unfold gD
  rw [List.getD_eq_getElem?_getD, List.getElem?_eq_getElem h]
  rfl
theorem ofP_eq (S : List (List Nat)) (a b : Nat) : ofP S a b = ofL S a b := rfl

/-- the memory of a breadth-first search. -/
structure BfsW (B : Nat) (w W : World) (N go bo bq : Nat) (d : List Int) (q : List Nat) (qv : Value) : Prop where
  o : Boxed W bo 26 (.slice (some ⟨go, 0, none⟩) N N)
  qb : Boxed W bq 26 qv
  qs : Seg W B 3 qv (q.map natC)
  i : Ints W go d
  ne : qv.ownBlock ≠ some go
  b : Below B w W
  go : B ≤ go ∧ B ≤ bo ∧ B ≤ bq ∧ bo ≠ bq
theorem BfsW.far {B : Nat} {w W W' : World} {N go bo bq : Nat} {d : List Int} {q : List Nat} {qv : Value} (h : BfsW B w W N go bo bq d q qv) (hb : Below B W W') (hk : ∀ k, (k = go ∨ k = bo ∨ k = bq ∨ qv.ownBlock = some k) → k < W.heap.size → W'.heap[k]? = W.heap[k]?) : BfsW B w W' N go bo bq d q qv :=
  ⟨(hk bo (.inr (.inl rfl)) h.o.lt).trans h.o, (hk bq (.inr (.inr (.inl rfl))) h.qb.lt).trans h.qb, h.qs.far (fun k hq => hk k (.inr (.inr (.inr hq))) (h.qs.lt k hq).2), (hk go (.inl rfl) (Array.getElem?_eq_some_iff.1 h.i).1).trans h.i, h.ne, h.b.trans hb, h.go⟩
theorem BfsW.turn {B : Nat} {w W W' : World} {N go bo bq : Nat} {d : List Int} {q : List Nat} {qv : Value} {row : Option Nat} (h : BfsW B w W N go bo bq d q qv) (hg : W.grownBy W' row) (hr : ∀ r, row = some r → B ≤ r ∧ ∃ o : Obj, W.heap[r]? = some o ∧ o.isCells = false) (hB : B ≤ W.heap.size) : BfsW B w W' N go bo bq d q qv := by
  refine h.far ((Below.refl B W).grown hg hB (fun k e => (hr k e).1)) fun k hk hlt => hg.block k hlt fun e => ?_
  obtain ⟨_, o, ho, hc⟩ := hr k e.symm
  have hcells : o.isCells = true := by
    rcases hk with rfl | rfl | rfl | hq
    · rw [show W.heap[k]? = _ from h.i] at ho; cases ho; rfl
    · rw [show W.heap[k]? = _ from h.o] at ho; cases ho; rfl
    · rw [show W.heap[k]? = _ from h.qb] at ho; cases ho; rfl
    · rcases h.qs with ⟨rfl, _⟩ | ⟨g, off, cap, cur, rfl, _, hgg, _⟩
      · simp [Value.ownBlock] at hq
      · simp [Value.ownBlock] at hq
        subst hq
        rw [hgg] at ho; cases ho; rfl
  rw [hc] at hcells
  cases hcells
theorem BfsW.alloc {B : Nat} {w W : World} {N go bo bq : Nat} {d : List Int} {q : List Nat} {qv : Value} (h : BfsW B w W N go bo bq d q qv) (hB : B ≤ W.heap.size) (o : Obj) : BfsW B w (W.alloc o) N go bo bq d q qv :=
  h.far ((Below.refl B W).alloc hB o) (fun k _ hlt => Below.heap_alloc _ _ _ hlt)
theorem BfsW.drew {B : Nat} {w W : World} {N go bo bq : Nat} {d : List Int} {q : List Nat} {qv : Value} (h : BfsW B w W N go bo bq d q qv) : BfsW B w W.drew N go bo bq d q qv := ⟨h.o, h.qb, h.qs, h.i, h.ne, h.b.drew, h.go⟩
/-- a distance is set. -/
theorem BfsW.setI {B : Nat} {w W : World} {N go bo bq : Nat} {d : List Int} {q : List Nat} {qv : Value} (h : BfsW B w W N go bo bq d q qv) (k : Nat) (x : Int) : BfsW B w (W.setCell ⟨go, k, none⟩ (intC x)) N go bo bq (d.set k x) q qv := by
  have e1 : bo ≠ go := fun e => by subst e; have := (show W.heap[bo]? = _ from h.o).symm.trans h.i; simp at this
  have e2 : bq ≠ go := fun e => by subst e; have := (show W.heap[bq]? = _ from h.qb).symm.trans h.i; simp at this
  refine ⟨(Below.heap_setCell _ _ _ _ (by exact e1)).trans h.o, (Below.heap_setCell _ _ _ _ (by exact e2)).trans h.qb, h.qs.far (fun j hj => Below.heap_setCell _ _ _ _ (by exact fun e => by have : j = go := e; subst this; exact h.ne hj)), h.i.set k x, h.ne, h.b.setCell (by exact h.go.1) _, h.go⟩
/-- the queue's box gets a new slice. -/
theorem BfsW.setQ {B : Nat} {w W W1 : World} {N go bo bq : Nat} {d : List Int} {q q' : List Nat} {qv qv' : Value} (h : BfsW B w W N go bo bq d q qv) (hB : B ≤ W.heap.size) (hg : W.grownBy W1 qv.ownBlock) (hs : Seg W1 B 3 qv' (q'.map natC)) (hat : qv'.ownBlock = qv.ownBlock ∨ qv'.ownBlock = none ∨ ∀ k, qv'.ownBlock = some k → W.heap.size ≤ k) : BfsW B w (W1.setCell ⟨bq, 0, none⟩ qv') N go bo bq d q' qv' := by
  have hgo := (Array.getElem?_eq_some_iff.1 h.i).1
  have hne : qv'.ownBlock ≠ some go := fun e => by
    rcases hat with a | a | a
    · exact h.ne (a ▸ e)
    · rw [a] at e; cases e
    · have := a go e; omega
  have h1 : Boxed W1 bo 26 (.slice (some ⟨go, 0, none⟩) N N) := h.o.kept hg (seg_ne h.o h.qs (by decide))
  have h2 : Boxed W1 bq 26 qv := h.qb.kept hg (seg_ne h.qb h.qs (by decide))
  have h3 : Ints W1 go d := (hg.block go hgo (fun e => h.ne e.symm)).trans h.i
  refine ⟨h1.other h.go.2.2.2 qv', h2.set qv', hs.far (fun k hk => Below.heap_setCell _ _ _ _ (by
    intro e
    have e : k = bq := e
    subst e
    exact seg_ne h2 hs (by decide) hk.symm)), ?_, hne, ((h.b.grown hg hB (fun k hk => (h.qs.lt k hk).1)).setCell (by exact h.go.2.2.1) _), h.go⟩
  refine (Below.heap_setCell _ _ _ _ ?_).trans h3
  intro e
  have e : go = bq := e
  subst e
  have := (show W1.heap[go]? = _ from h2).symm.trans h3
  simp at this

theorem unass_start {S : List (List Nat)} {to : Nat} (hto : to < S.length) : unass ((List.replicate S.length (-1)).set to 0) + 1 = S.length := by
  rw [unass_set _ _ _ (by simpa using hto) (by rw [gD_rep]; omega) (by omega)]
  unfold unass
  rw [List.countP_replicate]
  simp
/-- what holds between two rounds of a row. -/
def DistI (B : Nat) (S : List (List Nat)) (least to n : Nat) (w : World) (go bo bq bn u0 hs : Nat) (ds : List Deferred) (pre : List Nat) (W' : World) : Prop :=
  ∃ (d' : List Int) (q' : List Nat) (qv' : Value), BfsJ S least to n pre d' q' ∧ unass d' + q'.length = u0 ∧ BfsW B w W' S.length go bo bq d' q' qv' ∧ Boxed W' bn 3 (natC n) ∧ Marks B ds W' ∧ hs ≤ W'.heap.size ∧ ∀ k, qv'.ownBlock = some k → k < bn ∨ hs ≤ k

attribute [local go_sem] Oper.semAt_some

set_option maxRecDepth 100000 in
set_option maxHeartbeats 4000000 in
theorem distances_any (v : Value) (S : List (List Nat)) (to least : Nat) (w : World) (hR : RowsOf w.heap.size v S w) (hS : S.length ≤ 1000000) (hto : to < S.length) (hSl : ∀ a, (S.getD a []).length ≤ 1000000) (hSk : ∀ a, ∀ k ∈ S.getD a [], k < S.length) :
    Calls Try.prog 46 #[v, natC to, natC least] w fun e w' => ∃ g d, e = .returned (.slice (some ⟨g, 0, none⟩) S.length S.length) ∧ w.heap.size ≤ g ∧ Ints w' g d ∧ DistR S least to d ∧ Below w.heap.size w w' := by
  have hv : ∃ a c, v = .slice a S.length c := by
    rcases hR with ⟨rfl, a, c, rfl⟩ | ⟨b, off, cap, rfl, _⟩
    · exact ⟨a, c, rfl⟩
    · exact ⟨_, cap, rfl⟩
  obtain ⟨va, vc, rfl⟩ := hv
  have hrep := Repeat_any w.heap.size 1 S.length (-1) (w.alloc (.cells #[.int .i64 (-1)] 3)) hS (cell_of_row _ _ _ _ _ _ (World.alloc_heap_new w _)) (by simp)
  have HREP := Lib.hid hrep
  have HR := Lib.hid hR
  have HSL := Lib.hid hSl
  have HSK := Lib.hid hSk
  clear hrep hR hSl hSk
  have ht0 : (0 : Int) ≤ (to : Int) := by omega
  have ht1 : (to : Int) < (S.length : Int) := by omega
  refine (callsIn_wide (n := 9)).1 ?_
  refine callsIn_of_wp_marks Try.func46 rfl trivial ?_ rfl
  simp only [Try.ntmps46, List.size_toArray, List.length_cons, List.length_nil, Nat.reduceAdd, Nat.reduceSub, Array.replicate_succ, Array.replicate_zero, List.push_toArray, List.append_toArray, List.nil_append, List.cons_append]
  gi_wp2_with fail
  refine ⟨trivial, ?_⟩
  refine (callsIn_wide.2 HREP.out).mono ?_
  rintro e w1 ⟨go, rfl, hgo, hcg, hb1⟩
  have hs1 := hb1.size
  simp at hs1 hgo
  have hgl : go < w1.heap.size := (Array.getElem?_eq_some_iff.1 hcg).1
  have hI1 : Ints w1 go (List.replicate S.length (-1)) := by unfold Ints; rw [hcg]; simp
  have hc0 := cellA (.cells #[.slice (some ⟨go, 0, none⟩) S.length S.length] 26) (hI1.cell to (-1) (by simp [hto]))
  have hf0 : (w1.alloc (.cells #[.slice (some ⟨go, 0, none⟩) S.length S.length] 26)).frozen? ⟨go, to, none⟩ = false := frozA _ (hI1.cell to (-1) (by simp [hto])) (frozen_of_row _ _ _ _ _ hI1)
  have HB1 := Lib.hid (((Below.refl w.heap.size w).alloc (Nat.le_refl _) (.cells #[.int .i64 (-1)] 3)).trans (hb1.mono (by simp)))
  have HI1 := Lib.hid hI1
  clear hcg hb1 hI1
  gi_wp2_with fail
  obtain ⟨W2, hW2⟩ : ∃ W2, W2 = (((w1.setCell ⟨go, to, none⟩ (.int .i64 0)).alloc (.cells #[.slice (some ⟨go, 0, none⟩) S.length S.length] 26)).alloc (.cells #[natC to] 3)).alloc (.cells #[.slice (some ⟨w1.heap.size + 1, 0, none⟩) 1 1] 26) := ⟨_, rfl⟩
  have hs2 : W2.heap.size = w1.heap.size + 3 := by rw [hW2]; simp
  have hbw : BfsW w.heap.size w W2 S.length go w1.heap.size (w1.heap.size + 1 + 1) ((List.replicate S.length (-1)).set to 0) [to] (.slice (some ⟨w1.heap.size + 1, 0, none⟩) 1 1) := by
    rw [hW2]
    have hi := HI1.out.set to 0
    have z : (w1.setCell ⟨go, to, none⟩ (.int .i64 0)).heap.size = w1.heap.size := by simp
    refine ⟨?_, ?_, ?_, ?_, ?_, ?_, by omega, by omega, by omega, by omega⟩
    · have := ((Boxed.new (w1.setCell ⟨go, to, none⟩ (.int .i64 0)) 26 (.slice (some ⟨go, 0, none⟩) S.length S.length)).alloc (.cells #[natC to] 3)).alloc (.cells #[.slice (some ⟨w1.heap.size + 1, 0, none⟩) 1 1] 26)
      rw [z] at this
      exact this
    · have := Boxed.new (((w1.setCell ⟨go, to, none⟩ (.int .i64 0)).alloc (.cells #[.slice (some ⟨go, 0, none⟩) S.length S.length] 26)).alloc (.cells #[natC to] 3)) 26 (.slice (some ⟨w1.heap.size + 1, 0, none⟩) 1 1)
      rw [World.size_alloc, World.size_alloc, z] at this
      exact this
    · have := World.alloc_heap_new ((w1.setCell ⟨go, to, none⟩ (.int .i64 0)).alloc (.cells #[.slice (some ⟨go, 0, none⟩) S.length S.length] 26)) (.cells #[natC to] 3)
      rw [World.size_alloc, z] at this
      exact .inr ⟨w1.heap.size + 1, 0, 1, _, rfl, by omega, (Below.heap_alloc _ _ _ (by simp)).trans this, by simp, by simp, fun j x hx => by simpa using hx⟩
    · exact (Below.heap_alloc _ _ _ (by simp; omega)).trans ((Below.heap_alloc _ _ _ (by simp; omega)).trans ((Below.heap_alloc _ _ _ (by simp; omega)).trans hi))
    · simp [Value.ownBlock]; omega
    · exact (((HB1.out.setCell (by exact (by omega : w.heap.size ≤ go)) _).alloc (by simp; omega) _).alloc (by simp; omega) _).alloc (by simp; omega) _
  rw [← hW2]
  clear hW2 hc0 hf0
  have HBW := Lib.hid hbw
  clear hbw
  refine wpIn_loop_gas (fun j a' W => ∃ u9 u10 u20 u21 u22 u23 u24 u25 u26 u27 u28 u29 u30 u31 u32 u33 u34 u35 u36 u37 u38 u39 u40 u41 u42 u43 u44 u45 u46 u47 u48 u49 : Value, ∃ (ds : List Deferred) (d : List Int) (q : List Nat) (qv : Value), (BfsI S least to d q ∧ (j = unass d + q.length ∧ j ≤ S.length) ∧ BfsW w.heap.size w W S.length go w1.heap.size (w1.heap.size + 1 + 1) d q qv ∧ Marks w.heap.size ds W) ∧ a' = { tmps := #[Value.slice va S.length vc, natC to, natC least, undef, undef, undef, .slice none 0 0, .pointer (some ⟨w1.heap.size, 0, none⟩), .pointer (some ⟨w1.heap.size + 1 + 1, 0, none⟩), u9, u10, .slice (some ⟨w.heap.size, 0, none⟩) 1 1, .slice va S.length vc, .int .i64 S.length, .slice (some ⟨go, 0, none⟩) S.length S.length, .slice (some ⟨go, 0, none⟩) S.length S.length, natC to, .pointer (some ⟨go, to, none⟩), natC to, .slice (some ⟨w1.heap.size + 1, 0, none⟩) 1 1, u20, u21, u22, u23, u24, u25, u26, u27, u28, u29, u30, u31, u32, u33, u34, u35, u36, u37, u38, u39, u40, u41, u42, u43, u44, u45, u46, u47, u48, u49, undef], defers := ds }) (unass ((List.replicate S.length (-1)).set to 0) + 1) ?start ?round
  case start =>
    have hmk : Marks w.heap.size [] W2 := trivial
    repeat apply Exists.intro
    exact ⟨⟨BfsI.start hto, ⟨rfl, by have := unass_start hto; omega⟩, HBW.out, hmk⟩, rfl⟩
  case round =>
    clear HBW
    rintro j a' W ⟨u9, u10, u20, u21, u22, u23, u24, u25, u26, u27, u28, u29, u30, u31, u32, u33, u34, u35, u36, u37, u38, u39, u40, u41, u42, u43, u44, u45, u46, u47, u48, u49, ds, d, q, qv, ⟨hI, ⟨hj, hjS⟩, hW, hM⟩, rfl⟩
    have hcq := hW.qb.cell
    have hsW := hW.b.size
    cases q with
    | nil =>
      obtain ⟨qa, qc, rfl⟩ := hW.qs.shape
      have hco := hW.o.cell
      have HI := Lib.hid hI
      have HW := Lib.hid hW
      have HM := Lib.hid hM
      clear hI hW hM
      simp only [List.map_nil, List.length_nil] at *
      gi_wp2_with fail
      refine leave_marks HM.out (Shut.refl _ _) fun W' hs => ⟨_, results_tmp rfl _ _ _, go, d, rfl, by omega, hs.blk HW.out.i, HI.out.dist, HW.out.b.trans (hs.below (Nat.le_refl _))⟩
    | cons n q =>
      obtain ⟨qg, qo, qc, qa, rfl, hqx, hqs, hqa, hqo⟩ := hW.qs.head
      rw [List.length_map] at *
      have hql : (0 : Int) < ((q.length + 1 : Nat) : Int) := by omega
      have hnS : n < S.length := by have := gD_lt (hI.qok n (by simp)); rw [hI.len] at this; exact this
      have hcq2 := cellA (.cells #[natC n] 3) hcq
      have hfq2 := frozA (.cells #[natC n] 3) hcq hW.qb.frozen
      have HI := Lib.hid hI
      have HW := Lib.hid hW
      have HM := Lib.hid hM
      have HQS := Lib.hid hqs
      clear hI hW hM hqs
      simp only [List.length_cons] at hcq hcq2 hj
      have hbl := HW.out.qb.lt
      have hne1 : w1.heap.size + 1 + 1 ≠ W.heap.size := by omega
      have hne2 : W.heap.size ≠ w1.heap.size + 1 + 1 := by omega
      have HQO := Lib.hid hqo
      clear hqo
      gi_wp2_with fail
      refine ⟨trivial, (of_in 8 _ (n : Int) (least : Int) _ rfl).mono ?_⟩
      rintro e w' ⟨rfl, rfl⟩
      gi_wp2_with fail
      obtain ⟨Wl, hWl⟩ : ∃ Wl, Wl = ((((W.setCell ⟨w1.heap.size + 1 + 1, 0, none⟩ (.slice qa q.length qc)).alloc (.cells #[.int .i64 (n : Int)] 3)).alloc (.cells #[.slice va S.length vc] 53)).alloc (.cells #[.int .i64 (n : Int)] 3)).alloc (.cells #[.int .i64 (least : Int)] 3) := ⟨_, rfl⟩
      have hgW : W.grownBy Wl (some (w1.heap.size + 1 + 1)) := by
        rw [hWl]
        exact ((((grownBy_setCell' W _ _).trans (World.grownBy_alloc _ _ _)).trans (World.grownBy_alloc _ _ _)).trans (World.grownBy_alloc _ _ _)).trans (World.grownBy_alloc _ _ _)
      have hWA : BfsW w.heap.size w (W.setCell ⟨w1.heap.size + 1 + 1, 0, none⟩ (.slice qa q.length qc)) S.length go w1.heap.size (w1.heap.size + 1 + 1) d q (.slice qa q.length qc) := HW.out.setQ hsW (World.grownBy.refl _ _) HQS.out (.inl HQO.out)
      have z : (W.setCell ⟨w1.heap.size + 1 + 1, 0, none⟩ (.slice qa q.length qc)).heap.size = W.heap.size := by simp
      have hWL : BfsW w.heap.size w Wl S.length go w1.heap.size (w1.heap.size + 1 + 1) d q (.slice qa q.length qc) := by
        rw [hWl]
        exact (((hWA.alloc (by omega) _).alloc (by simp; omega) _).alloc (by simp; omega) _).alloc (by simp; omega) _
      have hbn : Boxed Wl W.heap.size 3 (natC n) := by
        rw [hWl]
        have := (((Boxed.new (W.setCell ⟨w1.heap.size + 1 + 1, 0, none⟩ (.slice qa q.length qc)) 3 (natC n)).alloc (.cells #[.slice va S.length vc] 53)).alloc (.cells #[.int .i64 (n : Int)] 3)).alloc (.cells #[.int .i64 (least : Int)] 3)
        rwa [z] at this
      have b0 : Boxed Wl (W.heap.size + 1) 53 (.slice va S.length vc) := by
        rw [hWl]
        have := ((Boxed.new ((W.setCell ⟨w1.heap.size + 1 + 1, 0, none⟩ (.slice qa q.length qc)).alloc (.cells #[.int .i64 (n : Int)] 3)) 53 (.slice va S.length vc)).alloc (.cells #[.int .i64 (n : Int)] 3)).alloc (.cells #[.int .i64 (least : Int)] 3)
        rwa [World.size_alloc, z] at this
      have b1 : Boxed Wl (W.heap.size + 1 + 1) 3 (natC n) := by
        rw [hWl]
        have := (Boxed.new (((W.setCell ⟨w1.heap.size + 1 + 1, 0, none⟩ (.slice qa q.length qc)).alloc (.cells #[.int .i64 (n : Int)] 3)).alloc (.cells #[.slice va S.length vc] 53)) 3 (natC n)).alloc (.cells #[.int .i64 (least : Int)] 3)
        rwa [World.size_alloc, World.size_alloc, z] at this
      have b2 : Boxed Wl (W.heap.size + 1 + 1 + 1) 3 (natC least) := by
        rw [hWl]
        have := Boxed.new ((((W.setCell ⟨w1.heap.size + 1 + 1, 0, none⟩ (.slice qa q.length qc)).alloc (.cells #[.int .i64 (n : Int)] 3)).alloc (.cells #[.slice va S.length vc] 53)).alloc (.cells #[.int .i64 (n : Int)] 3)) 3 (natC least)
        rwa [World.size_alloc, World.size_alloc, World.size_alloc, z] at this
      have hsl : Wl.heap.size = W.heap.size + 4 := by rw [hWl]; simp
      rw [← hWl]
      clear hWl hWA hcq hcq2 hfq2 hqa hqx HQS
      have hML : Marks w.heap.size ds Wl := HM.out.grown hgW (fun r e => by cases e; exact ⟨_, HW.out.qb, rfl⟩)
      have hJ0 := BfsJ.start HI.out
      refine wpIn_rangeFunc_ownG rfl (by decide) (gf := 64) rfl trivial (enters_of Try.func64 (by kernel_rfl) rfl)
        (of_stops 8 (by decide) (W.heap.size + 1) w.heap.size (.slice va S.length vc) S n least hnS (by omega) (by have := HSL.out n; omega) Wl b0 b1 b2 (HR.out.below hWL.b (Nat.le_refl _)) (by omega)) kpB_t (kpB_b (by omega) (by omega)) (Below.refl _ _) (fun _ => rfl)
        (fun pre W' => DistI w.heap.size S least to n w go w1.heap.size (w1.heap.size + 1 + 1) W.heap.size (unass d + q.length) Wl.heap.size ds (valsOf pre) W') (fun _ _ _ => False) ?hI (fun _ _ _ _ _ h _ _ => h) ?h0
        (fun x => { tmps := #[.slice va S.length vc, natC to, natC least, undef, undef, undef, .slice none 0 0, .pointer (some ⟨w1.heap.size, 0, none⟩), .pointer (some ⟨w1.heap.size + 1 + 1, 0, none⟩), .pointer (some ⟨W.heap.size, 0, none⟩), natC x.1, .slice (some ⟨w.heap.size, 0, none⟩) 1 1, .slice va S.length vc, .int .i64 S.length, .slice (some ⟨go, 0, none⟩) S.length S.length, .slice (some ⟨go, 0, none⟩) S.length S.length, natC to, .pointer (some ⟨go, to, none⟩), natC to, .slice (some ⟨w1.heap.size + 1, 0, none⟩) 1 1, .slice (some ⟨qg, qo, none⟩) (q.length + 1) (qc + 1), .int .i64 ((q.length : Int) + 1), .bool true, .slice (some ⟨qg, qo, none⟩) (q.length + 1) (qc + 1), .pointer (some ⟨qg, qo, none⟩), natC n, .slice (some ⟨qg, qo, none⟩) (q.length + 1) (qc + 1), .slice qa q.length qc, .slice va S.length vc, natC n, natC least, .func (.func 64) #[] #[.pointer (some ⟨W.heap.size + 1, 0, none⟩), .pointer (some ⟨W.heap.size + 1 + 1, 0, none⟩), .pointer (some ⟨W.heap.size + 1 + 1 + 1, 0, none⟩)], natC x.1, u33, u34, u35, u36, u37, u38, u39, u40, u41, u42, u43, u44, u45, u46, u47, u48, u49, undef], defers := [] }) ?assign ?body ?done ?stop
      case hI =>
        intro pre X Y row h hg hr
        obtain ⟨d', q', qv', h1, h2, h3, h4, h5, h6, h7⟩ := h
        exact ⟨d', q', qv', h1, h2, h3.turn hg (fun r e => ⟨by have := (hr r e).1; omega, (hr r e).2⟩) (by omega), blk_turn h4 hg (fun r e => (hr r e).2), hML.turn h5 hg (fun r e => (hr r e).1), by have := hg.size; omega, h7⟩
      case h0 => exact ⟨d, q, _, hJ0, rfl, hWL, hbn, hML, Nat.le_refl _, fun k hk => .inl (by have := HW.out.qs.lt k (by rw [← HQO.out]; exact hk); exact this.2)⟩
      case assign =>
        intro l x W2 K hK
        simp only [encOf]
        gi_wp2
        exact hK
      case body =>
        rintro l pre x W2 ⟨d', q', qv', hJ, hu, hW2, hbn2, hM2, hs2', hqb2⟩ _
        have HQB := Lib.hid hqb2
        clear hqb2
        have hxk : x.1 ∈ ofP S n least := x.2
        have hxl : x.1 < S.length := by
          have := hxk
          unfold ofP at this
          exact HSK.out n _ (List.mem_filter.1 this).1
        obtain ⟨k, hkx⟩ : ∃ k, k = x.1 := ⟨_, rfl⟩
        have HS2 : Hid (W.heap.size + 4 ≤ W2.heap.size) := Lib.hid (by omega)
        rw [← hkx] at hxk hxl ⊢
        obtain ⟨hJ', hu'⟩ := hJ.step (st := (d', q')) k hxk hxl
        have hk0 : (0 : Int) ≤ (k : Int) := by omega
        have hk1 : (k : Int) < (S.length : Int) := by omega
        have hco := hW2.o.cell
        have hdl : k < d'.length := by rw [hJ.len]; exact hxl
        have hck := hW2.i.cell k _ (gD_get hdl)
        have hcn := hbn2.cell
        have hnl : n < d'.length := by rw [hJ.len]; exact hnS
        have hcd := hW2.i.cell n _ (gD_get hnl)
        have hfk := frozen_of_row _ _ k _ _ hW2.i
        have hn0 : (0 : Int) ≤ (n : Int) := by omega
        have hn1 : (n : Int) < (S.length : Int) := by omega
        have hbd := hJ.bound n
        have hlo := hJ.n0
        have HVS : Hid (valsOf (pre ++ [x]) = valsOf pre ++ [k]) := Lib.hid (by rw [valsOf_snoc, hkx])
        clear hkx
        by_cases hneg : gD d' k < 0
        · have e1 : bstep n (d', q') k = (d'.set k (gD d' n + 1), q' ++ [k]) := by unfold bstep; exact if_pos hneg
          rw [e1] at hJ' hu'
          simp only at hJ' hu'
          have HJ := Lib.hid hJ'
          have HU := Lib.hid hu'
          have HW2 := Lib.hid hW2
          have HM2 := Lib.hid hM2
          have HBN := Lib.hid hbn2
          have HU0 := Lib.hid hu
          have hcq := hW2.qb.cell
          have hfq := hW2.qb.frozen
          clear hJ' hu' hW2 hM2 hbn2 hJ hu e1
          generalize gD d' n = dn at *
          generalize gD d' k = dk at *
          have hw1 : IntKind.i64.wrap (dn + 1) = dn + 1 := IntWalk.i64_in _ (by omega)
          gi_wp2_with fail
          refine region_round_tail 8 (by kernel_rfl) (by kernel_rfl) (fun _ _ h => h) (by kernel_rfl) ?_
          simp only [List.take_succ_cons, List.take_zero, List.drop_succ_cons, List.drop_zero]
          repeat still_step
          try refine wpStill_nil ?_
          have hne3 : w1.heap.size + 1 + 1 ≠ go := by omega
          have hne4 : go ≠ w1.heap.size + 1 + 1 := by omega
          have hlq : q'.length + 1 ≤ 1000000000 := by have := HU0.out; omega
          go_wp2_with fail
          obtain ⟨W3, hW3⟩ : ∃ W3, W3 = (W2.setCell ⟨go, k, none⟩ (.int .i64 (dn + 1))).drew := ⟨_, rfl⟩
          have hg3 : W2.grownBy W3 (some go) := by
            rw [hW3]
            exact grownD ⟨rfl, rfl, rfl, by simp, fun j _ hj => heap_setCell_other _ ⟨go, k, none⟩ j _ (fun e => hj (by rw [e]))⟩
          have hW3' : BfsW w.heap.size w W3 S.length go w1.heap.size (w1.heap.size + 1 + 1) (d'.set k (dn + 1)) q' qv' := by rw [hW3]; exact (HW2.out.setI k (dn + 1)).drew
          have hgi : ∃ o : Obj, W2.heap[go]? = some o ∧ o.isCells = true := ⟨_, HW2.out.i, rfl⟩
          rw [← hW3]
          clear hW3 hcq hfq hco hck hcn hcd hfk
          have hs3 := hg3.size
          have hgo3 : W.heap.size ≠ go := by omega
          have hB3 : Boxed W3 W.heap.size 3 (natC n) := HBN.out.kept hg3 (by simpa using hgo3)
          have hM3 : Marks w.heap.size ds W3 := HM2.out.grown hg3 (fun r e => by cases e; exact hgi)
          have hKF : KeepsFrom Wl.heap.size W2 W3 := (KeepsOthers.of_grownBy hg3 (fun j o ej hj => by cases ej; obtain ⟨o', h1, h2⟩ := hgi; rw [h1] at hj; cases hj; exact h2)).from _
          have hKB : KpB (W.heap.size + 1 + 1 + 1) w.heap.size W2 W3 := ⟨hg3.block _ (by have := HS2.out; omega) (by simp; omega), (Below.refl w.heap.size W2).grown hg3 (by have := HS2.out; omega) (fun j e => by cases e; omega)⟩
          have hs4 : W.heap.size + 4 ≤ W3.heap.size := by have := HS2.out; omega
          have hcq := hW3'.qb.cell
          have HW3 := Lib.hid hW3'
          have HB3 := Lib.hid hB3
          have HM3 := Lib.hid hM3
          have HKF := Lib.hid hKF
          have HKB := Lib.hid hKB
          clear hW3' hB3 hM3 hKF hKB hg3 hgi hs3 hgo3 HW2 HBN HM2
          obtain ⟨i0, hi0', hz0, hz1, hz2⟩ := info_parts info_ints
          have hcq3 := cellA (.cells #[natC k] 3) hcq
          have HSG := Lib.hid (HW3.out.alloc (by omega) (.cells #[natC k] 3))
          gi_wp2_with (gi_at_builtin; refine wpListIn_append_seg _ rfl _ _ 26 rfl 3 i0 _ 8 Try.underlying26 hi0' hz0 hz1 hz2 rfl w.heap.size qv' _ (by rfl) HSG.out.qs (by simp; omega) (natC k) ⟨W3.heap.size, 0, none⟩ 1 (by rfl) (cell_of_row _ _ _ _ _ _ (World.alloc_heap_new W3 _)) rfl (by rw [List.length_map]; exact hlq) (by omega) ?_; intro v6 w6 hs6 hg6 hat6; have hq6 := HSG.out.qb.kept hg6 (seg_ne HSG.out.qb HSG.out.qs (by decide)); have hcq6 := hq6.cell; have hfq6 := hq6.frozen; obtain ⟨qa6, qc6, rfl⟩ := hs6.shape; have HS6 := Lib.hid hs6; have HG6 := Lib.hid hg6; have HAT6 := Lib.hid hat6; clear hs6 hg6 hat6 hq6)
          have hsp : W3.heap.size < (W3.alloc (.cells #[natC k] 3)).heap.size := by simp
          have hs6 := HG6.out.size
          simp only [World.size_alloc] at hs6
          have hfin := HSG.out.setQ (q' := q' ++ [k]) (by simp; omega) HG6.out (by rw [List.map_append]; exact HS6.out) (by
            rcases HAT6.out with h | h
            · exact .inl h
            · exact .inr (.inr h))
          have hqn : ∀ j, qv'.ownBlock = some j → j ≠ W.heap.size ∧ j ≠ W.heap.size + 1 + 1 + 1 := fun j hj => by
            have := HQB.out j hj
            omega
          have hsl2 : Wl.heap.size = W.heap.size + 4 := hsl
          have hqc : ∀ r, qv'.ownBlock = some r → ∃ o : Obj, (W3.alloc (.cells #[natC k] 3)).heap[r]? = some o ∧ o.isCells = true := fun r e => by
            rcases HSG.out.qs with ⟨h, _⟩ | ⟨g, off, cap, cur, h, _, hg, _⟩
            · rw [h] at e; cases e
            · rw [h] at e; cases e; exact ⟨_, hg, rfl⟩
          have g5 : (W3.alloc (.cells #[natC k] 3)).grownBy w6 qv'.ownBlock := HG6.out
          have hq6 := HSG.out.qb.kept HG6.out (seg_ne HSG.out.qb HSG.out.qs (by decide))
          have g6 := grownBy_setCell' w6 (w1.heap.size + 1 + 1) (.slice qa6 ((q'.map natC) ++ [natC k]).length qc6)
          have hl6 : ((q'.map natC) ++ [natC k]).length = q'.length + 1 := by simp
          have HAT7 := HAT6.out
          rw [hl6] at hfin g6 HAT7
          refine ⟨?_, ?_, ?_⟩
          · refine (HKF.out.trans ((KeepsOthers.alloc _ _).from _)).trans (((KeepsOthers.of_grownBy g5 (fun j o ej hj => by obtain ⟨o', h1, h2⟩ := hqc j ej; rw [h1] at hj; cases hj; exact h2)).trans (KeepsOthers.setCell _ _ _)).from _)
          · refine kpB_t HKB.out ⟨?_, ?_⟩
            · rw [Below.heap_setCell _ _ _ _ (by show W.heap.size + 1 + 1 + 1 ≠ w1.heap.size + 1 + 1; omega)]
              rw [g5.block _ (by simp; omega) (fun e => (hqn _ e.symm).2 rfl)]
              exact Below.heap_alloc _ _ _ (by omega)
            · exact (((Below.refl _ _).alloc (by omega) _).grown g5 (by simp; omega) (fun j hj => (HSG.out.qs.lt j hj).1)).setCell (by show w.heap.size ≤ w1.heap.size + 1 + 1; omega) _
          · show DistI _ _ _ _ _ _ _ _ _ _ _ _ _ (valsOf (pre ++ [x])) _
            rw [HVS.out]
            refine ⟨_, _, _, HJ.out, by rw [HU.out]; exact HU0.out, hfin, ?_, ?_, ?_, ?_⟩
            · exact ((HB3.out.alloc _).kept g5 (fun e => (hqn _ e.symm).1 rfl)).other (by omega) _
            · exact ((HM3.out.grown (World.grownBy_alloc _ _ none) (fun r e => by cases e)).grown g5 hqc).grown g6 (fun r e => by cases e; exact ⟨_, hq6, rfl⟩)
            · simp; omega
            · intro j hj
              rcases HAT7 with h | h
              · exact HQB.out j (by rw [← h]; exact hj)
              · right
                have := h j hj
                simp at this
                omega
        · have e1 : bstep n (d', q') k = (d', q') := by unfold bstep; exact if_neg hneg
          rw [e1] at hJ' hu'
          simp only at hJ' hu'
          have HJ := Lib.hid hJ'
          have HW2 := Lib.hid hW2
          have HM2 := Lib.hid hM2
          have HBN := Lib.hid hbn2
          have HU0 := Lib.hid hu
          clear hJ' hu' hW2 hM2 hbn2 hJ hu e1
          generalize gD d' n = dn at *
          generalize gD d' k = dk at *
          gi_wp2_with fail
          refine ⟨KeepsFrom.refl _ _, ⟨rfl, Below.refl _ _⟩, ?_⟩
          show DistI _ _ _ _ _ _ _ _ _ _ _ _ _ (valsOf (pre ++ [x])) _
          rw [HVS.out]
          exact ⟨d', q', qv', HJ.out, HU0.out, HW2.out, HBN.out, HM2.out, by have := HS2.out; omega, fun j hj => by have := HQB.out j hj; omega⟩
      case done =>
        rintro D xs W2 hD hxs ⟨d', q', qv', hJ, hu, hW2, hbn2, hM2, hs2', _⟩ hK
        rw [hxs, ← ofP_eq] at hJ
        have hM3 := hM2.push hML (by omega) (Nat.le_refl _) hD hK
        have HJ := Lib.hid hJ
        have HW2 := Lib.hid hW2
        have HM3 := Lib.hid hM3
        clear hJ hW2 hM3 hM2 hbn2 hK hxs
        gi_wp2
        refine ⟨unass d' + q'.length, by omega, ?_⟩
        repeat apply Exists.intro
        exact ⟨⟨HJ.out.fin, ⟨rfl, by omega⟩, HW2.out, HM3.out⟩, rfl⟩
      case stop =>
        rintro D c pre W2 hD _ h _
        exact h.elim
end Go.Proofs.Ytlcgbkeggmaljaa

namespace Go.Proofs.Ytlcgbkeggmaljaa
set_option linter.unusedVariables false
set_option linter.unusedSimpArgs false
open Go Go.RowKit

theorem descP_cons (S : List (List Nat)) (far : List Int) (m n : Nat) : descP S far m n = n :: (descP S far m n).tail := by cases m <;> rfl

theorem find_pref {p : Nat → Bool} : ∀ {zs : List Nat} {x : Nat} {l : List Nat}, zs ++ [x] <+: l → (∀ k ∈ zs, p k = false) → p x = true → l.find? p = some x
  | [], x, l, h, _, hx => by
    obtain ⟨t, rfl⟩ := h
    simp [hx]
  | z :: zs, x, l, h, hz, hx => by
    obtain ⟨t, rfl⟩ := h
    have hz0 := hz z (by simp)
    have := find_pref (zs := zs) (x := x) (l := zs ++ [x] ++ t) ⟨t, rfl⟩ (fun k hk => hz k (by simp [hk])) hx
    simp only [List.cons_append]
    rw [List.find?_cons_of_neg (by rw [hz0]; simp)]
    exact this
/-- the memory of a descent. -/
structure DescW (B : Nat) (w W : World) (N gf bf bo bn : Nat) (acc : List Nat) (n : Nat) (ov : Value) : Prop where
  o : Boxed W bo 26 ov
  os : W.ownsRow B 3 1 ov acc.length (acc.map natC)
  n : Boxed W bn 3 (natC n)
  f : Boxed W bf 26 (.slice (some ⟨gf, 0, none⟩) N N)
  ne : ov.ownBlock ≠ some bn
  b : Below B w W
  le : B ≤ bf ∧ B ≤ bo ∧ B ≤ bn ∧ bf ≠ bo ∧ bn ≠ bo ∧ bn ≠ bf
theorem DescW.far {B : Nat} {w W W' : World} {N gf bf bo bn n : Nat} {acc : List Nat} {ov : Value} (h : DescW B w W N gf bf bo bn acc n ov) (hb : Below B W W') (hk : ∀ k, (k = bf ∨ k = bo ∨ k = bn ∨ ov.ownBlock = some k) → k < W.heap.size → W'.heap[k]? = W.heap[k]?) : DescW B w W' N gf bf bo bn acc n ov :=
  ⟨(hk bo (.inr (.inl rfl)) h.o.lt).trans h.o, own_far h.os (fun k hq => hk k (.inr (.inr (.inr hq))) (h.os.lt k hq).2), (hk bn (.inr (.inr (.inl rfl))) h.n.lt).trans h.n, (hk bf (.inl rfl) h.f.lt).trans h.f, h.ne, h.b.trans hb, h.le⟩
theorem DescW.turn {B : Nat} {w W W' : World} {N gf bf bo bn n : Nat} {acc : List Nat} {ov : Value} {row : Option Nat} (h : DescW B w W N gf bf bo bn acc n ov) (hg : W.grownBy W' row) (hr : ∀ r, row = some r → B ≤ r ∧ ∃ o : Obj, W.heap[r]? = some o ∧ o.isCells = false) (hB : B ≤ W.heap.size) : DescW B w W' N gf bf bo bn acc n ov := by
  refine h.far ((Below.refl B W).grown hg hB (fun k e => (hr k e).1)) fun k hk hlt => hg.block k hlt fun e => ?_
  obtain ⟨_, o, ho, hc⟩ := hr k e.symm
  have hcells : o.isCells = true := by
    rcases hk with rfl | rfl | rfl | hq
    · rw [show W.heap[k]? = _ from h.f] at ho; cases ho; rfl
    · rw [show W.heap[k]? = _ from h.o] at ho; cases ho; rfl
    · rw [show W.heap[k]? = _ from h.n] at ho; cases ho; rfl
    · rcases h.os.2 with ⟨rfl, _⟩ | ⟨g, cap, cur, rfl, _, hgg, _⟩
      · simp [Value.ownBlock] at hq
      · simp [Value.ownBlock] at hq
        subst hq
        rw [hgg] at ho; cases ho; rfl
  rw [hc] at hcells
  cases hcells
theorem DescW.alloc {B : Nat} {w W : World} {N gf bf bo bn n : Nat} {acc : List Nat} {ov : Value} (h : DescW B w W N gf bf bo bn acc n ov) (hB : B ≤ W.heap.size) (o : Obj) : DescW B w (W.alloc o) N gf bf bo bn acc n ov :=
  h.far ((Below.refl B W).alloc hB o) (fun k _ hlt => Below.heap_alloc _ _ _ hlt)
theorem DescW.drew {B : Nat} {w W : World} {N gf bf bo bn n : Nat} {acc : List Nat} {ov : Value} (h : DescW B w W N gf bf bo bn acc n ov) : DescW B w W.drew N gf bf bo bn acc n ov := ⟨h.o, h.os, h.n, h.f, h.ne, h.b.drew, h.le⟩
/-- the node is set. -/
theorem DescW.setN {B : Nat} {w W : World} {N gf bf bo bn n : Nat} {acc : List Nat} {ov : Value} (h : DescW B w W N gf bf bo bn acc n ov) (k : Nat) : DescW B w (W.setCell ⟨bn, 0, none⟩ (natC k)) N gf bf bo bn acc k ov := by
  obtain ⟨l1, l2, l3, l4, l5, l6⟩ := h.le
  exact ⟨h.o.other l5.symm _, own_far h.os (fun j hj => Below.heap_setCell _ _ _ _ (by intro e; have e : j = bn := e; subst e; exact h.ne hj)), h.n.set _, h.f.other l6.symm _, h.ne, h.b.setCell (by exact l3) _, h.le⟩
/-- the list's box gets a new slice. -/
theorem DescW.setO {B : Nat} {w W W1 : World} {N gf bf bo bn n : Nat} {acc acc' : List Nat} {ov ov' : Value} (h : DescW B w W N gf bf bo bn acc n ov) (hB : B ≤ W.heap.size) (hg : W.grownBy W1 ov.ownBlock) (hs : W1.ownsRow B 3 1 ov' acc'.length (acc'.map natC)) (hat : ov'.ownBlock = ov.ownBlock ∨ ∀ k, ov'.ownBlock = some k → W.heap.size ≤ k) : DescW B w (W1.setCell ⟨bo, 0, none⟩ ov') N gf bf bo bn acc' n ov' := by
  obtain ⟨l1, l2, l3, l4, l5, l6⟩ := h.le
  have hne : ov'.ownBlock ≠ some bn := fun e => by
    rcases hat with a | a
    · exact h.ne (a ▸ e)
    · have := a bn e; have := h.n.lt; omega
  have h1 : Boxed W1 bo 26 ov := h.o.kept hg (blk_ne h.o h.os (by decide))
  have h2 : Boxed W1 bf 26 (.slice (some ⟨gf, 0, none⟩) N N) := h.f.kept hg (blk_ne h.f h.os (by decide))
  have h3 : Boxed W1 bn 3 (natC n) := h.n.kept hg (fun e => h.ne e.symm)
  exact ⟨h1.set ov', own_far hs (fun k hk => Below.heap_setCell _ _ _ _ (by
    intro e
    have e : k = bo := e
    subst e
    exact blk_ne h1 hs (by decide) hk.symm)), h3.other l5 _, h2.other l4 _, hne, ((h.b.grown hg hB (fun k hk => (h.os.lt k hk).1)).setCell (by exact l2) _), h.le⟩

/-- the node is boxed anew. -/
theorem DescW.newN {B : Nat} {w W : World} {N gf bf bo bn n : Nat} {acc : List Nat} {ov : Value} (h : DescW B w W N gf bf bo bn acc n ov) (hB : B ≤ W.heap.size) : DescW B w (W.alloc (.cells #[natC n] 3)) N gf bf bo W.heap.size acc n ov := by
  obtain ⟨l1, l2, l3, l4, l5, l6⟩ := h.le
  have h1 := h.o.lt
  have h2 := h.f.lt
  exact ⟨h.o.alloc _, h.os.alloc _, Boxed.new W _ _, h.f.alloc _, fun e => by have := (h.os.lt _ e).2; omega, h.b.alloc hB _, l1, l2, hB, l4, by omega, by omega⟩
theorem descP_step {S : List (List Nat)} {far : List Int} {m n x : Nat} (h : (S.getD n []).find? (fun k => gD far k == (m : Int)) = some x) : (descP S far (m + 1) n).tail = x :: (descP S far m x).tail := by
  rw [show descP S far (m + 1) n = n :: (match (S.getD n []).find? (fun k => gD far k == (m : Int)) with | some k => descP S far m k | none => []) from rfl, h]
  exact descP_cons S far m x
/-- an append of one number, in a walk inside a fence. -/
theorem appIn_int {F : Fence} {n : Nat} (w : World) {ops : Array Oper} {rest : List Oper} {o : Oper} {ac : Act} {Q : Exit → Act → World → Prop}
    (hg : o.guard = none) (s x : Operand) (hop : o.op = Op.call { callee := Callee.builtin Builtin.append, args := #[s, x], argTypes := #[26, 26] })
    (B : Nat) (v : Value) (k : Nat) (xs : List Value) (hs : ac.eval s = v) (h : w.ownsRow B 3 1 v k xs) (hB : B ≤ w.heap.size) (u : Value) (a : Addr) (c : Nat) (hx : ac.eval x = .slice (some a) 1 c) (hu : w.cell? a = some u) (h1 : u.oneCell' = true) (hl : k + 1 ≤ 1000000000)
    (hK : ∀ g cap w', w'.ownsRow B 3 1 (.slice (some ⟨g, 0, none⟩) (k + 1) cap) (k + 1) (xs ++ [u]) → w.grownBy w' v.ownBlock → (v.ownBlock = some g ∨ g = w.heap.size) → wpListIn F n Try.prog ops Q rest (ac.put o.dst (.slice (some ⟨g, 0, none⟩) (k + 1) cap)) w') :
    wpListIn F n Try.prog ops Q (o :: rest) ac w := by
  refine wpListIn_plain hg fun K hK' => ?_
  obtain ⟨i0, hi, hz0, hz1, hz2⟩ := info_parts info_ints
  obtain ⟨g, cap, w', hrun, r1, r2, r3, _⟩ := run_append_lies (P := Try.prog) w 26 o.type B 3 i0 (.int .i64 0) 1 8 Try.underlying26 hi hz0 hz1 hz2 rfl (by decide) v k xs h a 1 c [u] rfl (fun j y hy => by
    cases j with
    | zero =>
      simp at hy
      subst hy
      have : a.add 0 = a := by unfold Addr.add; split <;> simp_all
      rw [this]; exact hu
    | succ j => simp at hy) (by simpa using h1) (by decide) (by unfold maxLen; omega) (by omega) hB w.heap.size rfl
  unfold Oper.wpIn
  refine ⟨?_, ?_⟩
  · simp [Oper.about, hop, resolve, Target.leads, Sem.run_pure]
  · rw [Oper.semAt_plain F _ _ (by rw [hop]; intro c hc'; cases hc')]
    simp [execOp, hop, resolve, invoke, builtin, hs, hx, hrun, Result.andThen]
    exact hK' _ _ (hK g cap w' r1 r2 r3)
/-- what holds between two rounds of a row. -/
def DescI (B : Nat) (far : List Int) (w : World) (N gf bf bo bn n hs : Nat) (acc : List Nat) (ds : List Deferred) (pre : List Nat) (W' : World) : Prop :=
  ∃ ov : Value, (∀ k ∈ pre, gD far k ≠ gD far n - 1) ∧ DescW B w W' N gf bf bo bn acc n ov ∧ Marks B ds W' ∧ hs ≤ W'.heap.size ∧ ∀ k, ov.ownBlock = some k → k < hs - 3 ∨ hs ≤ k
/-- what a round that ends it leaves. -/
def DescX (B : Nat) (far : List Int) (w : World) (N gf bf bo bn n hs : Nat) (acc : List Nat) (ds : List Deferred) (id : Nat) (c : Code) (pre : List Nat) (W' : World) : Prop :=
  c = .exit id ∧ ∃ (ov : Value) (zs : List Nat) (x : Nat), pre = zs ++ [x] ∧ (∀ k ∈ zs, gD far k ≠ gD far n - 1) ∧ gD far x = gD far n - 1 ∧ DescW B w W' N gf bf bo bn (acc ++ [x]) x ov ∧ Marks B ds W' ∧ hs ≤ W'.heap.size

attribute [local go_sem] Oper.semAt_some

set_option maxRecDepth 100000 in
set_option maxHeartbeats 4000000 in
theorem descend_any (v : Value) (S : List (List Nat)) (from_ gf : Nat) (far : List Int) (w : World) (hR : RowsOf w.heap.size v S w) (hS : S.length ≤ 1000000) (hfl : far.length = S.length) (hF : Ints w gf far) (hfrom : from_ < S.length) (hf0 : 0 ≤ gD far from_) (hfb : ∀ a, gD far a ≤ 1000000)
    (hSl : ∀ a, (S.getD a []).length ≤ 1000000) (hSk : ∀ a, ∀ k ∈ S.getD a [], k < S.length) (hd : ∀ a (m : Nat), gD far a = (m : Int) + 1 → ∃ k ∈ S.getD a [], gD far k = (m : Int)) :
    Calls Try.prog 47 #[v, natC from_, .slice (some ⟨gf, 0, none⟩) S.length S.length] w fun e w' => ∃ v, e = .returned v ∧ w'.ownsRow w.heap.size 3 1 v (descP S far (gD far from_).toNat from_).length ((descP S far (gD far from_).toNat from_).map natC) ∧ Below w.heap.size w w' := by
  have hv : ∃ a c, v = .slice a S.length c := by
    rcases hR with ⟨rfl, a, c, rfl⟩ | ⟨b, off, cap, rfl, _⟩
    · exact ⟨a, c, rfl⟩
    · exact ⟨_, cap, rfl⟩
  obtain ⟨va, vc, rfl⟩ := hv
  have HR := Lib.hid hR
  have HSL := Lib.hid hSl
  have HSK := Lib.hid hSk
  have HF := Lib.hid hF
  have HFB := Lib.hid hfb
  have HD := Lib.hid hd
  have hgf : gf < w.heap.size := (Array.getElem?_eq_some_iff.1 hF).1
  clear hR hSl hSk hF hfb hd
  refine (callsIn_wide (n := 9)).1 ?_
  refine callsIn_of_wp_marks Try.func47 rfl trivial ?_ rfl
  simp only [Try.ntmps47, List.size_toArray, List.length_cons, List.length_nil, Nat.reduceAdd, Nat.reduceSub, Array.replicate_succ, Array.replicate_zero, List.push_toArray, List.append_toArray, List.nil_append, List.cons_append]
  gi_wp2_with fail
  obtain ⟨W2, hW2⟩ : ∃ W2, W2 = (((w.alloc (.cells #[.slice (some ⟨gf, 0, none⟩) S.length S.length] 26)).alloc (.cells #[natC from_] 3)).alloc (.cells #[.slice (some ⟨w.heap.size + 1, 0, none⟩) 1 1] 26)).alloc (.cells #[natC from_] 3) := ⟨_, rfl⟩
  have hs2 : W2.heap.size = w.heap.size + 4 := by rw [hW2]; simp
  have hbw : DescW w.heap.size w W2 S.length gf w.heap.size (w.heap.size + 1 + 1) (w.heap.size + 1 + 1 + 1) [from_] from_ (.slice (some ⟨w.heap.size + 1, 0, none⟩) 1 1) := by
    rw [hW2]
    refine ⟨?_, ?_, ?_, ?_, ?_, ?_, by omega, by omega, by omega, by omega, by omega, by omega⟩
    · have := (Boxed.new ((w.alloc (.cells #[.slice (some ⟨gf, 0, none⟩) S.length S.length] 26)).alloc (.cells #[natC from_] 3)) 26 (.slice (some ⟨w.heap.size + 1, 0, none⟩) 1 1)).alloc (.cells #[natC from_] 3)
      rwa [World.size_alloc, World.size_alloc] at this
    · have := ((own_made w.heap.size 3 1 [natC from_] (w.alloc (.cells #[.slice (some ⟨gf, 0, none⟩) S.length S.length] 26)) (by simp) (by decide) rfl).alloc (.cells #[.slice (some ⟨w.heap.size + 1, 0, none⟩) 1 1] 26)).alloc (.cells #[natC from_] 3)
      rwa [World.size_alloc] at this
    · have := Boxed.new (((w.alloc (.cells #[.slice (some ⟨gf, 0, none⟩) S.length S.length] 26)).alloc (.cells #[natC from_] 3)).alloc (.cells #[.slice (some ⟨w.heap.size + 1, 0, none⟩) 1 1] 26)) 3 (natC from_)
      rwa [World.size_alloc, World.size_alloc, World.size_alloc] at this
    · exact (((Boxed.new w _ _).alloc _).alloc _).alloc _
    · simp [Value.ownBlock]
    · exact ((((Below.refl _ _).alloc (Nat.le_refl _) _).alloc (by simp) _).alloc (by simp; omega) _).alloc (by simp; omega) _
  rw [← hW2]
  clear hW2
  have HBW := Lib.hid hbw
  clear hbw
  refine wpIn_loop_gas (fun j a' W => ∃ u9 u13 u14 u15 u16 u17 u18 u19 u20 u21 u22 u23 u24 u25 u26 u27 u28 u29 u30 u31 u32 u33 u34 u35 u36 u37 : Value, ∃ (bn : Nat) (ds : List Deferred) (acc : List Nat) (n : Nat) (ov : Value), ((j = (gD far n).toNat ∧ 0 ≤ gD far n ∧ n < S.length) ∧ acc ++ (descP S far j n).tail = descP S far (gD far from_).toNat from_ ∧ DescW w.heap.size w W S.length gf w.heap.size (w.heap.size + 1 + 1) bn acc n ov ∧ Marks w.heap.size ds W) ∧ a' = { tmps := #[.slice va S.length vc, natC from_, .slice (some ⟨gf, 0, none⟩) S.length S.length, undef, undef, .pointer (some ⟨w.heap.size, 0, none⟩), .slice none 0 0, .pointer (some ⟨w.heap.size + 1 + 1, 0, none⟩), .pointer (some ⟨bn, 0, none⟩), u9, natC from_, .slice (some ⟨w.heap.size + 1, 0, none⟩) 1 1, natC from_, u13, u14, u15, u16, u17, u18, u19, u20, u21, u22, u23, u24, u25, u26, u27, u28, u29, u30, u31, u32, u33, u34, u35, u36, u37, undef], defers := ds }) (gD far from_).toNat ?start ?round
  case start =>
    have hmk : Marks w.heap.size [] W2 := trivial
    have hde : [from_] ++ (descP S far (gD far from_).toNat from_).tail = descP S far (gD far from_).toNat from_ := (descP_cons _ _ _ _).symm
    repeat apply Exists.intro
    exact ⟨⟨⟨rfl, hf0, hfrom⟩, hde, HBW.out, hmk⟩, rfl⟩
  case round =>
    clear HBW
    rintro j a' W ⟨u9, u13, u14, u15, u16, u17, u18, u19, u20, u21, u22, u23, u24, u25, u26, u27, u28, u29, u30, u31, u32, u33, u34, u35, u36, u37, bn, ds, acc, n, ov, ⟨⟨hj, hn0, hnS⟩, hacc, hW, hM⟩, rfl⟩
    have hsW := hW.b.size
    have hFW : Ints W gf far := (hW.b.block gf hgf).trans HF.out
    have hcf := hW.f.cell
    have hcn := hW.n.cell
    have hcx := hFW.cell n _ (gD_get (by rw [hfl]; exact hnS))
    have hx0 : (0 : Int) ≤ (n : Int) := by omega
    have hx1 : (n : Int) < (S.length : Int) := by omega
    have hbnd := HFB.out n
    obtain ⟨fv, hfv⟩ : ∃ fv, fv = gD far n := ⟨_, rfl⟩
    rw [← hfv] at hcx hn0 hj hbnd
    have HFV := Lib.hid hfv
    clear hfv
    have HW := Lib.hid hW
    have HM := Lib.hid hM
    have HFW := Lib.hid hFW
    have HACC := Lib.hid hacc
    have HJ := Lib.hid hj
    have halen : acc.length ≤ 1000001 := by
      have h1 := congrArg List.length hacc
      have h2 := descP_length S far (gD far from_).toNat from_
      have h3 := HFB.out from_
      rw [List.length_append] at h1
      omega
    clear hW hM hFW hacc hj
    by_cases hz : fv = 0
    · have hj0 : j = 0 := by have := HJ.out; omega
      rw [hz] at hcx
      have hco := HW.out.o.cell
      have HZ := Lib.hid hz
      clear hz
      gi_wp2_with fail
      refine leave_marks HM.out (Shut.refl _ _) fun W' hs => ⟨_, results_tmp rfl _ _ _, ov, rfl, ?_, HW.out.b.trans (hs.below (Nat.le_refl _))⟩
      have e := HACC.out
      rw [hj0] at e
      simp only [descP, List.tail_cons, List.append_nil] at e
      rw [← e]
      refine own_far HW.out.os fun k hk => ?_
      rcases HW.out.os.2 with ⟨h, _⟩ | ⟨g, cap, cur, h, _, hg, _⟩
      · rw [h] at hk; simp [Value.ownBlock] at hk
      · rw [h] at hk; simp [Value.ownBlock] at hk; subst hk
        exact (hs.blk hg).trans hg.symm
    · have hpos : 0 < fv := by omega
      have hne : ¬ fv ≤ 0 := by omega
      have HZ := Lib.hid hz
      clear hz
      gi_wp2_with fail
      refine ⟨trivial, (of_in 8 _ (n : Int) 0 _ rfl).mono ?_⟩
      rintro e w' ⟨rfl, rfl⟩
      gi_wp2_with fail
      obtain ⟨Wl, hWl⟩ : ∃ Wl, Wl = ((W.alloc (.cells #[.slice va S.length vc] 53)).alloc (.cells #[.int .i64 (n : Int)] 3)).alloc (.cells #[.int .i64 0] 3) := ⟨_, rfl⟩
      have hgW : W.grownBy Wl none := by rw [hWl]; exact ((World.grownBy_alloc _ _ _).trans (World.grownBy_alloc _ _ _)).trans (World.grownBy_alloc _ _ _)
      have hWL : DescW w.heap.size w Wl S.length gf w.heap.size (w.heap.size + 1 + 1) bn acc n ov := by
        rw [hWl]
        exact ((HW.out.alloc hsW _).alloc (by simp; omega) _).alloc (by simp; omega) _
      have b0 : Boxed Wl W.heap.size 53 (.slice va S.length vc) := by rw [hWl]; exact ((Boxed.new W _ _).alloc _).alloc _
      have b1 : Boxed Wl (W.heap.size + 1) 3 (natC n) := by
        rw [hWl]
        have := (Boxed.new (W.alloc (.cells #[.slice va S.length vc] 53)) 3 (natC n)).alloc (.cells #[.int .i64 0] 3)
        rwa [World.size_alloc] at this
      have b2 : Boxed Wl (W.heap.size + 1 + 1) 3 (natC 0) := by
        rw [hWl]
        have := Boxed.new ((W.alloc (.cells #[.slice va S.length vc] 53)).alloc (.cells #[.int .i64 (n : Int)] 3)) 3 (natC 0)
        rwa [World.size_alloc, World.size_alloc] at this
      have hsl : Wl.heap.size = W.heap.size + 3 := by rw [hWl]; simp
      rw [← hWl]
      clear hWl hcf hcn hcx
      have hML : Marks w.heap.size ds Wl := HM.out.grown hgW (fun r e => by cases e)
      have hovb : ∀ k, ov.ownBlock = some k → k < W.heap.size := fun k hk => (HW.out.os.lt k hk).2
      have hbnl := HW.out.n.lt
      refine wpIn_rangeFunc_ownG rfl (by decide) (gf := 64) rfl trivial (enters_of Try.func64 (by kernel_rfl) rfl)
        (of_stops 8 (by decide) W.heap.size w.heap.size (.slice va S.length vc) S n 0 hnS (by omega) (by have := HSL.out n; omega) Wl b0 b1 b2 (HR.out.below hWL.b (Nat.le_refl _)) (by omega)) kpB_t (kpB_b (by omega) (by omega)) (Below.refl _ _) (fun _ => rfl)
        (fun pre W' => DescI w.heap.size far w S.length gf w.heap.size (w.heap.size + 1 + 1) bn n Wl.heap.size acc ds (valsOf pre) W') (fun c pre W' => DescX w.heap.size far w S.length gf w.heap.size (w.heap.size + 1 + 1) bn n Wl.heap.size acc ds 2 c (valsOf pre) W') ?hI ?hIx ?h0
        (fun x => { tmps := #[.slice va S.length vc, natC from_, .slice (some ⟨gf, 0, none⟩) S.length S.length, undef, undef, .pointer (some ⟨w.heap.size, 0, none⟩), .slice none 0 0, .pointer (some ⟨w.heap.size + 1 + 1, 0, none⟩), .pointer (some ⟨bn, 0, none⟩), natC x.1, natC from_, .slice (some ⟨w.heap.size + 1, 0, none⟩) 1 1, natC from_, .slice (some ⟨gf, 0, none⟩) S.length S.length, natC n, .pointer (some ⟨gf, n, none⟩), intC fv, .bool true, .slice va S.length vc, natC n, .func (.func 64) #[] #[.pointer (some ⟨W.heap.size, 0, none⟩), .pointer (some ⟨W.heap.size + 1, 0, none⟩), .pointer (some ⟨W.heap.size + 1 + 1, 0, none⟩)], natC x.1, u22, u23, u24, u25, u26, u27, u28, u29, u30, u31, u32, u33, u34, u35, u36, u37, undef], defers := [] }) ?assign ?body ?done ?stop
      case hI =>
        intro pre X Y row h hg hr
        obtain ⟨ov', h1, h2, h3, h4, h5⟩ := h
        exact ⟨ov', h1, h2.turn hg (fun r e => ⟨by have := (hr r e).1; omega, (hr r e).2⟩) (by omega), hML.turn h3 hg (fun r e => (hr r e).1), by have := hg.size; omega, h5⟩
      case hIx =>
        intro c pre X Y row h hg hr
        obtain ⟨h0, ov', zs, x, h1, h2, h3, h4, h5, h6⟩ := h
        exact ⟨h0, ov', zs, x, h1, h2, h3, h4.turn hg (fun r e => ⟨by have := (hr r e).1; omega, (hr r e).2⟩) (by omega), hML.turn h5 hg (fun r e => (hr r e).1), by have := hg.size; omega⟩
      case h0 => exact ⟨ov, by simp [valsOf], hWL, hML, Nat.le_refl _, fun k hk => .inl (by have := hovb k hk; omega)⟩
      case assign =>
        intro l x W2 K hK
        simp only [encOf]
        gi_wp2
        exact hK
      case body =>
        rintro l pre x W2 ⟨ov2, hpre, hW2, hM2, hs2', hob2⟩ _
        have hxl : x.1 < S.length := by
          have := x.2
          unfold ofL at this
          exact HSK.out n _ (List.mem_filter.1 this).1
        obtain ⟨k, hkx⟩ : ∃ k, k = x.1 := ⟨_, rfl⟩
        rw [← hkx] at hxl ⊢
        have HVS : Hid (valsOf (pre ++ [x]) = valsOf pre ++ [k]) := Lib.hid (by rw [valsOf_snoc, hkx])
        clear hkx
        have hk0 : (0 : Int) ≤ (k : Int) := by omega
        have hk1 : (k : Int) < (S.length : Int) := by omega
        have hF2 : Ints W2 gf far := (hW2.b.block gf hgf).trans HF.out
        have hcf := hW2.f.cell
        have hcn := hW2.n.cell
        have hfn := hW2.n.frozen
        have hco := hW2.o.cell
        have hck := hF2.cell k _ (gD_get (by rw [hfl]; exact hxl))
        have hcx := hF2.cell n _ (gD_get (by rw [hfl]; exact hnS))
        rw [← HFV.out] at hcx
        obtain ⟨kv, hkv⟩ : ∃ kv, kv = gD far k := ⟨_, rfl⟩
        rw [← hkv] at hck
        have HKV := Lib.hid hkv
        clear hkv
        have hw1 : IntKind.i64.wrap (fv - 1) = fv - 1 := IntWalk.i64_in _ (by omega)
        have HW2 := Lib.hid hW2
        have HM2 := Lib.hid hM2
        have HPRE := Lib.hid hpre
        have HOB := Lib.hid hob2
        have HS2 : Hid (W.heap.size + 3 ≤ W2.heap.size) := Lib.hid (by omega)
        clear hW2 hM2 hpre hob2 hF2
        by_cases hm : kv = fv - 1
        · have hmb : (kv == fv - 1) = true := by rw [hm]; simp
          gi_wp2_with fail
          refine region_round_tail 9 (by kernel_rfl) (by kernel_rfl) (fun _ _ h => h) (by kernel_rfl) ?_
          simp only [List.take_succ_cons, List.take_zero, List.drop_succ_cons, List.drop_zero]
          repeat still_step
          try refine wpStill_nil ?_
          go_wp2_with fail
          obtain ⟨W3, hW3⟩ : ∃ W3, W3 = W2.drew := ⟨_, rfl⟩
          have hD3 : DescW w.heap.size w W3 S.length gf w.heap.size (w.heap.size + 1 + 1) bn acc n ov2 := by rw [hW3]; exact HW2.out.drew
          have hg3 : W2.grownBy W3 none := by rw [hW3]; exact grownD (World.grownBy.refl _ _)
          have hs3 : W3.heap.size = W2.heap.size := by rw [hW3]; rfl
          rw [← hW3]
          clear hW3 hcf hcn hfn hco hck hcx
          have hcn := hD3.n.cell
          have hfn := hD3.n.frozen
          have hN3 := hD3.setN k
          have HSG := Lib.hid (hN3.alloc (by simp; have := HS2.out; omega) (.cells #[natC k] 3))
          have hco := cellA (.cells #[natC k] 3) hN3.o.cell
          have hco0 := hN3.o.cell
          have HN3 := Lib.hid hN3
          have HD3 := Lib.hid hD3
          have HG3 := Lib.hid hg3
          have HS3 := Lib.hid hs3
          clear hN3 hD3 hg3 hs3
          have hsz3 : (W3.setCell ⟨bn, 0, none⟩ (natC k)).heap.size = W3.heap.size := by simp
          have HB0 : Hid (w.heap.size ≤ (W3.setCell ⟨bn, 0, none⟩ (natC k)).heap.size) := Lib.hid (by rw [hsz3, HS3.out]; have := HS2.out; omega)
          have HCX : Hid (((W3.setCell ⟨bn, 0, none⟩ (natC k)).alloc (.cells #[natC k] 3)).cell? ⟨W3.heap.size, 0, none⟩ = some (natC k)) := Lib.hid (by have := World.alloc_heap_new (W3.setCell ⟨bn, 0, none⟩ (natC k)) (.cells #[natC k] 3); rw [hsz3] at this; exact cell_of_row _ _ _ _ _ _ this)
          have HB1 : Hid (w.heap.size ≤ ((W3.setCell ⟨bn, 0, none⟩ (natC k)).alloc (.cells #[natC k] 3)).heap.size) := Lib.hid (by rw [World.size_alloc]; have := HB0.out; omega)
          clear hsz3
          gi_wp2_with (gi_at_builtin; go_loud (refine appIn_int _ rfl _ _ rfl w.heap.size ov2 acc.length _ (by rfl) HSG.out.os HB1.out (natC k) ⟨W3.heap.size, 0, none⟩ 1 (by rfl) HCX.out rfl (by omega) ?_); intro g6 c6 w6 hs6 hg6 hat6; have hq6 := HSG.out.o.kept hg6 (blk_ne HSG.out.o HSG.out.os (by decide)); have hcq6 := hq6.cell; have hfq6 := hq6.frozen; have HS6 := Lib.hid hs6; have HG6 := Lib.hid hg6; have HAT6 := Lib.hid hat6; clear hs6 hg6 hat6 hq6)
          have hfin := HSG.out.setO (acc' := acc ++ [k]) HB1.out HG6.out (by rw [List.length_append, List.map_append]; exact HS6.out) (by
            rcases HAT6.out with h | h
            · exact .inl (by rw [h]; rfl)
            · refine .inr fun j hj => ?_
              have e : g6 = j := by simpa [Value.ownBlock] using hj
              subst e
              exact Nat.le_of_eq h.symm)
          have hqc : ∀ r, ov2.ownBlock = some r → ∃ o : Obj, ((W3.setCell ⟨bn, 0, none⟩ (natC k)).alloc (.cells #[natC k] 3)).heap[r]? = some o ∧ o.isCells = true := fun r e => by
            rcases HSG.out.os.2 with ⟨h, _⟩ | ⟨g, cap, cur, h, _, hg, _⟩
            · rw [h] at e; cases e
            · rw [h] at e; cases e; exact ⟨_, hg, rfl⟩
          have hq6 := HSG.out.o.kept HG6.out (blk_ne HSG.out.o HSG.out.os (by decide))
          have g4 := grownBy_setCell' W3 bn (natC k)
          have g5 := HG6.out
          have g6' := grownBy_setCell' w6 (w.heap.size + 1 + 1) (.slice (some ⟨g6, 0, none⟩) (acc.length + 1) c6)
          have hs6 := HG6.out.size
          have hs7 : W3.heap.size = W2.heap.size := HS3.out
          refine ⟨?_, ?_⟩
          · exact (KeepsFrom.of_grownBy HG3.out (fun j e => by cases e)).trans ((((KeepsOthers.setCell W3 _ _).trans (KeepsOthers.alloc _ _)).trans ((KeepsOthers.of_grownBy g5 (fun j o ej hj => by obtain ⟨o', h1, h2⟩ := hqc j ej; rw [h1] at hj; cases hj; exact h2)).trans (KeepsOthers.setCell _ _ _))).from _)
          · show DescX _ _ _ _ _ _ _ _ _ _ _ _ _ _ (valsOf (pre ++ [x])) _
            rw [HVS.out]
            refine ⟨rfl, _, valsOf pre, k, rfl, HPRE.out, by rw [← HKV.out, ← HFV.out]; exact hm, by simpa using hfin, ?_, ?_⟩
            · exact ((((HM2.out.grown HG3.out (fun r e => by cases e)).grown g4 (fun r e => by cases e; exact ⟨_, HD3.out.n, rfl⟩)).grown (World.grownBy_alloc _ _ none) (fun r e => by cases e)).grown g5 hqc).grown g6' (fun r e => by cases e; exact ⟨_, hq6, rfl⟩)
            · have := HS2.out
              simp at hs6 ⊢
              omega
        · have hmb : (kv == fv - 1) = false := by rw [beq_eq_false_iff_ne]; exact hm
          gi_wp2_with fail
          refine region_round_tail 9 (by kernel_rfl) (by kernel_rfl) (fun _ _ h => h) (by kernel_rfl) ?_
          simp only [List.take_succ_cons, List.take_zero, List.drop_succ_cons, List.drop_zero]
          repeat still_step
          try refine wpStill_nil ?_
          go_wp2_with fail
          gi_wp2_with fail
          have hg3 : W2.grownBy W2.drew none := grownD (World.grownBy.refl _ _)
          refine ⟨KeepsFrom.of_grownBy hg3 (fun j e => by cases e), ⟨rfl, (Below.refl _ _).drew⟩, ?_⟩
          show DescI _ _ _ _ _ _ _ _ _ _ _ _ (valsOf (pre ++ [x])) _
          rw [HVS.out]
          refine ⟨ov2, fun j hj => ?_, HW2.out.drew, HM2.out.grown hg3 (fun r e => by cases e), by show Wl.heap.size ≤ W2.heap.size; have := HS2.out; omega, fun j hj => by have := HOB.out j hj; omega⟩
          rcases List.mem_append.1 hj with hj | hj
          · exact HPRE.out j hj
          · rw [List.mem_singleton] at hj
            subst hj
            rw [← HKV.out, ← HFV.out]
            exact hm
      case done =>
        rintro D xs W2 hD hxs ⟨ov2, hpre, _⟩ hK
        exfalso
        rw [hxs] at hpre
        unfold ofL at hpre
        rw [List.filter_eq_self.2 (by simp)] at hpre
        have e := HFV.out
        obtain ⟨k, hk1, hk2⟩ := HD.out n ((gD far n).toNat - 1) (by omega)
        exact hpre k hk1 (by omega)
      case stop =>
        rintro D c pre W2 hD hpf ⟨rfl, ov2, zs, x, hz, hzs, hx, hW2, hM2, hs2'⟩ hK
        have hcn := hW2.n.cell
        have HW2 := Lib.hid hW2
        have hM3 := hM2.push hML (by omega) (Nat.le_refl _) hD hK
        have HM3 := Lib.hid hM3
        have HX := Lib.hid hx
        have HZ2 := Lib.hid hz
        have HZS := Lib.hid hzs
        have HPF := Lib.hid hpf
        clear hW2 hM3 hM2 hx hz hzs hpf hK
        gi_wp2
        have e0 := HFV.out
        have e1 := HX.out
        have e2 := HJ.out
        have hxm : x ∈ ofL S n 0 := by
          have := HPF.out
          rw [HZ2.out] at this
          obtain ⟨t, ht⟩ := this
          rw [← ht]; simp
        have hxS : x ∈ S.getD n [] := by
          unfold ofL at hxm
          exact (List.mem_filter.1 hxm).1
        have hxN : x < S.length := HSK.out n x hxS
        have hfind : (S.getD n []).find? (fun k => gD far k == (((gD far x).toNat : Nat) : Int)) = some x := by
          have hp := HPF.out
          rw [HZ2.out] at hp
          unfold ofL at hp
          rw [List.filter_eq_self.2 (by simp)] at hp
          refine find_pref hp (fun k hk => ?_) ?_
          · rw [beq_eq_false_iff_ne]
            have := HZS.out k hk
            omega
          · rw [beq_iff_eq]; omega
        have hjm : j = (gD far x).toNat + 1 := by omega
        have hacc2 : acc ++ [x] ++ (descP S far (gD far x).toNat x).tail = descP S far (gD far from_).toNat from_ := by
          rw [← HACC.out, hjm, descP_step hfind, List.append_assoc]
          rfl
        have hWN := HW2.out.newN (by omega)
        have hMN := HM3.out.grown (World.grownBy_alloc W2 (.cells #[natC x] 3) none) (fun r e => by cases e)
        have hx00 : 0 ≤ gD far x := by omega
        refine ⟨(gD far x).toNat, by omega, ?_⟩
        repeat apply Exists.intro
        exact ⟨⟨⟨rfl, hx00, hxN⟩, hacc2, hWN, hMN⟩, rfl⟩
end Go.Proofs.Ytlcgbkeggmaljaa

namespace Go.Proofs.Ytlcgbkeggmaljaa
set_option linter.unusedVariables false
set_option linter.unusedSimpArgs false
open Go Go.RowKit

theorem ints_row {W : World} {g : Nat} {l : List Int} (h : Ints W g l) : g < W.heap.size := (Array.getElem?_eq_some_iff.1 h).1

set_option maxRecDepth 100000 in
set_option maxHeartbeats 4000000 in
theorem Path_no (nv ev : Value) (ns : List ByteArray) (es : List (Int × Int)) (a b : Int) (w : World) (hes : es.length ≤ 1000000000000) (hE : EdgesOf w.heap.size ev es w) (hN : RowOf Value.string w.heap.size nv ns w)
    (hno : (validG ns.length es && (nodeB ns.length a && nodeB ns.length b)) = false) :
    Calls Try.prog 15 #[.agg #[nv, ev], .int .i64 a, .int .i64 b] w fun e w' => e = .returned (.slice none 0 0) ∧ Below w.heap.size w w' := by
  obtain ⟨na, nc, rfl, _⟩ := rowOf_open hN
  have hb1 : Below w.heap.size w ((w.alloc (.cells #[.slice na ns.length nc, ev] 25)).alloc (.cells #[.int .i64 a, .int .i64 b] 3)) := ((Below.refl _ _).alloc (Nat.le_refl _) _).alloc (by simp) _
  have hL : RowOf intC ((w.alloc (.cells #[.slice na ns.length nc, ev] 25)).alloc (.cells #[.int .i64 a, .int .i64 b] 3)).heap.size (.slice (some ⟨w.heap.size + 1, 0, none⟩) 2 2) [a, b] ((w.alloc (.cells #[.slice na ns.length nc, ev] 25)).alloc (.cells #[.int .i64 a, .int .i64 b] 3)) := by
    have h := World.alloc_heap_new (w.alloc (.cells #[.slice na ns.length nc, ev] 25)) (.cells #[.int .i64 a, .int .i64 b] 3)
    rw [World.size_alloc] at h
    refine .inr ⟨w.heap.size + 1, 0, 2, rfl, by simp, fun i x hx => ?_⟩
    rw [cell_of_row _ _ _ _ _ _ h]
    match i, hx with
    | 0, hx => simp at hx; subst hx; rfl
    | 1, hx => simp at hx; subst hx; rfl
    | j + 2, hx => simp at hx
  have hx := exist_any na ns.length nc ev _ es [a, b] _ hes ((hE.below hb1 (Nat.le_refl _)).mono hb1.size) (by simp) hL
  have e : (validG ns.length es && [a, b].all (nodeB ns.length)) = false := by simpa using hno
  rw [e] at hx
  obtain ⟨ao, ec, rfl, _⟩ := hE
  have HX := Lib.hid hx
  have HB1 := Lib.hid hb1
  clear hx hb1 hL e hno hN
  go_enter Try.func15, Try.ntmps15
  go_wp2_with fail
  refine HX.out.mono ?_
  rintro e w1 ⟨rfl, hb⟩
  go_wp2_with fail
  go_ret
  exact ⟨rfl, HB1.out.trans (hb.mono (by simp; omega))⟩

set_option maxRecDepth 100000 in
set_option maxHeartbeats 4000000 in
theorem Path_yes (nv ev : Value) (ns : List ByteArray) (es : List (Int × Int)) (a b : Nat) (w : World) (hE : EdgesOf w.heap.size ev es w) (hN : RowOf Value.string w.heap.size nv ns w) (hval : validG ns.length es = true) (ha : a < ns.length) (hbn : b < ns.length) :
    Calls Try.prog 15 #[.agg #[nv, ev], natC a, natC b] w fun e w' => ∃ v, e = .returned v ∧ w'.ownsRow w.heap.size 3 1 v (pathF ns.length es a b).length ((pathF ns.length es a b).map natC) ∧ Below w.heap.size w w' := by
  obtain ⟨hNn, hNe⟩ := validG_n hval
  have hN0 := hN
  obtain ⟨na, nc, rfl, _⟩ := rowOf_open hN
  have hb1 : Below w.heap.size w ((w.alloc (.cells #[.slice na ns.length nc, ev] 25)).alloc (.cells #[natC a, natC b] 3)) := ((Below.refl _ _).alloc (Nat.le_refl _) _).alloc (by simp) _
  have hL : RowOf intC ((w.alloc (.cells #[.slice na ns.length nc, ev] 25)).alloc (.cells #[natC a, natC b] 3)).heap.size (.slice (some ⟨w.heap.size + 1, 0, none⟩) 2 2) [(a : Int), (b : Int)] ((w.alloc (.cells #[.slice na ns.length nc, ev] 25)).alloc (.cells #[natC a, natC b] 3)) := by
    have h := World.alloc_heap_new (w.alloc (.cells #[.slice na ns.length nc, ev] 25)) (.cells #[natC a, natC b] 3)
    rw [World.size_alloc] at h
    refine .inr ⟨w.heap.size + 1, 0, 2, rfl, by simp, fun i x hx => ?_⟩
    rw [cell_of_row _ _ _ _ _ _ h]
    match i, hx with
    | 0, hx => simp at hx; subst hx; rfl
    | 1, hx => simp at hx; subst hx; rfl
    | j + 2, hx => simp at hx
  have hx := exist_any na ns.length nc ev _ es [(a : Int), (b : Int)] _ (by omega) ((hE.below hb1 (Nat.le_refl _)).mono hb1.size) (by simp) hL
  have e : (validG ns.length es && [(a : Int), (b : Int)].all (nodeB ns.length)) = true := by
    rw [hval]
    unfold nodeB
    simp
    omega
  rw [e] at hx
  have hE0 := hE
  obtain ⟨ao, ec, rfl, _⟩ := hE
  have hg0 : ((w.alloc (.cells #[.slice na ns.length nc, .slice ao es.length ec] 25)).alloc (.cells #[natC a, natC b] 3)).heap[w.heap.size]? = some (.cells #[.slice na ns.length nc, .slice ao es.length ec] 25 (0, 0)) := (Below.heap_alloc _ _ _ (by simp)).trans (World.alloc_heap_new w _)
  have HG0 := Lib.hid hg0
  have HX := Lib.hid hx
  have HB1 := Lib.hid hb1
  have HV := Lib.hid hval
  have HE := Lib.hid hE0
  have HN := Lib.hid hN0
  clear hx hb1 hL e hval hN hg0 hE0 hN0
  have ha0 : (0 : Int) ≤ (a : Int) := by omega
  have ha1 : (a : Int) < (ns.length : Int) := by omega
  go_enter Try.func15, Try.ntmps15
  go_wp2_with fail
  refine HX.out.mono ?_
  rintro e w1 ⟨rfl, hb⟩
  have hs1 := hb.size
  simp only [World.size_alloc] at hs1
  have hblk := (hb.block w.heap.size (by simp; omega)).trans HG0.out
  have hg0 : w1.cell? ⟨w.heap.size, 0, none⟩ = some (.slice na ns.length nc) := cell_of_row _ _ 0 _ _ _ hblk
  have hg1 : w1.cell? ⟨w.heap.size, 1, none⟩ = some (.slice ao es.length ec) := cell_of_row _ _ 1 _ _ _ hblk
  have HBLK := Lib.hid hblk
  have HW1 := Lib.hid (HB1.out.trans (hb.mono (by simp; omega)))
  have hrv := Reverse_any _ _ ns es w1 (by omega) ((HE.out.below HW1.out (Nat.le_refl _)).mono (by omega)) ((HN.out.below HW1.out (Nat.le_refl _)).mono (by omega))
  have e1 : revN ns es = ns := if_pos HV.out
  have e2 : revE ns.length es = es.map swapE := if_pos HV.out
  rw [e1, e2] at hrv
  have HRV := Lib.hid hrv
  clear hb hblk hrv e1 e2
  go_wp2_with fail
  refine HRV.out.mono ?_
  rintro e w2 ⟨a2, c2, v2, rfl, hn2, he2, hb2⟩
  have hs2 := hb2.size
  have HN2 := Lib.hid (newSucc_any a2 c2 ns.length v2 (es.map swapE) w2 he2 (validG_swap HV.out))
  have HW2 := Lib.hid (HW1.out.trans (hb2.mono (by omega)))
  have HBLK2 := Lib.hid ((hb2.block w.heap.size (by omega)).trans HBLK.out)
  obtain ⟨a3, n3, c3, rfl⟩ : ∃ a n c, v2 = .slice a n c := by obtain ⟨x, y, h, _⟩ := he2; exact ⟨_, _, _, h⟩
  clear hn2 he2 hb2 HRV hg0 hg1
  go_wp2_with fail
  refine HN2.out.mono ?_
  rintro e w3 ⟨v3, vs3, rfl, hgr3, hb3⟩
  have hs3 := hb3.size
  have hr3 := hgr3.rows
  obtain ⟨a4, c4, hv3⟩ := hgr3.shape
  rw [List.length_map, sucs_length] at hv3
  subst hv3
  have hdd : Calls Try.prog 46 #[.slice a4 ns.length c4, natC b, .int .i64 0] w3 _ := distances_any _ (sucs ns.length (es.map swapE)) b 0 w3 hr3 (by rw [sucs_length]; omega) (by rw [sucs_length]; exact hbn) (fun x => by have := sucs_row (N := ns.length) (es := es.map swapE) x; omega) sucs_lt
  rw [sucs_length] at hdd
  have HDD := Lib.hid hdd
  have HW3 := Lib.hid (HW2.out.trans (hb3.mono (by omega)))
  have HBLK3 := Lib.hid ((hb3.block w.heap.size (by omega)).trans HBLK2.out)
  clear hgr3 hb3 hr3 hdd
  go_wp2_with fail
  refine HDD.out.mono ?_
  rintro e w4 ⟨gf, far, rfl, hgf, hi4, hd4, hb4⟩
  have hs4 := hb4.size
  have hfl := hd4.len
  rw [sucs_length] at hfl
  have hblk4 := (hb4.block w.heap.size (by omega)).trans HBLK3.out
  have hg0 : w4.cell? ⟨w.heap.size, 0, none⟩ = some (.slice na ns.length nc) := cell_of_row _ _ 0 _ _ _ hblk4
  have hg1 : w4.cell? ⟨w.heap.size, 1, none⟩ = some (.slice ao es.length ec) := cell_of_row _ _ 1 _ _ _ hblk4
  have hca := hi4.cell a _ (gD_get (by rw [hfl]; exact ha))
  have hfe := hd4.eq sucs_lt (by rw [sucs_length]; exact hbn)
  have hlo := hd4.lo a
  obtain ⟨fv, hfv⟩ : ∃ fv, fv = gD far a := ⟨_, rfl⟩
  rw [← hfv] at hca hlo
  have HFV := Lib.hid hfv
  have HFE := Lib.hid hfe
  have HD4 := Lib.hid hd4
  have HI4 := Lib.hid hi4
  have HW4 := Lib.hid (HW3.out.trans (hb4.mono (by omega)))
  have HP : Hid (pathF ns.length es a b = if fv < 0 then [] else descP (sucs ns.length es) far fv.toNat a) := Lib.hid (by unfold pathF; simp only; rw [← hfe, ← hfv])
  have hgl := ints_row hi4
  clear hfv hfe hd4 hi4 hb4 HDD hblk4
  by_cases hneg : fv < 0
  · have HP2 := Lib.hid (HP.out.trans (if_pos hneg))
    go_wp2_with fail
    go_ret
    refine ⟨_, rfl, ?_, HW4.out⟩
    rw [HP2.out]
    exact World.ownsRow_nil _ _ _ _
  · have HP2 := Lib.hid (HP.out.trans (if_neg hneg))
    have hnn : ¬ fv < 0 := hneg
    have HN4 := Lib.hid (newSucc_any na nc ns.length _ es w4 ((HE.out.below HW4.out (Nat.le_refl _)).mono (by omega)) HV.out)
    go_wp2_with fail
    refine HN4.out.mono ?_
    rintro e w5 ⟨v5, vs5, rfl, hgr5, hb5⟩
    have hs5 := hb5.size
    have hr5 := hgr5.rows
    obtain ⟨a6, c6, hv5⟩ := hgr5.shape
    rw [List.length_map, sucs_length] at hv5
    subst hv5
    have hde := descend_any _ (sucs ns.length es) a gf far w5 hr5 (by rw [sucs_length]; omega) (by rw [sucs_length]; exact hfl) ((hb5.block gf hgl).trans HI4.out) (by rw [sucs_length]; exact ha) (by rw [← HFV.out]; omega)
      (fun x => by have := HD4.out.bound sucs_lt (by rw [sucs_length]; exact hbn) x; rw [sucs_length] at this; omega) (fun x => by have := sucs_row (N := ns.length) (es := es) x; omega) sucs_lt HD4.out.desc
    rw [sucs_length, ← HFV.out, ← HP2.out] at hde
    have HDE := Lib.hid hde
    have HW5 := Lib.hid (HW4.out.trans (hb5.mono (by omega)))
    clear hgr5 hb5 hr5 hde HN4 hg0 hg1 hca
    go_wp2_with fail
    refine HDE.out.mono ?_
    rintro e w6 ⟨v6, rfl, ho6, hb6⟩
    have HO6 := Lib.hid ho6
    have HB6 := Lib.hid hb6
    clear ho6 hb6 HDE
    go_wp2_with fail
    go_ret
    exact ⟨_, rfl, ⟨HO6.out.1, HO6.out.2.imp id fun ⟨g, cap, cur, h1, h2, h3⟩ => ⟨g, cap, cur, h1, by omega, h3⟩⟩, HW5.out.trans (HB6.out.mono (by omega))⟩
end Go.Proofs.Ytlcgbkeggmaljaa
