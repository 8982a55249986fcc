/- slices.IndexFunc and ContainsFunc at lists of strings, and the closures of the waves' laws. The library's Index, Contains and Equal at edges. -/
import Derived.Test.YtnjiibiafhnmgaaGreatDoorZS
import Derived.Test.YtnjiibiafhnmgaaGreatDoorYP
import Derived.Test.YtnjiibiafhnmgaaGreatDoorZE
import Derived.Test.YtnjiibiafhnmgaaGreatDoorQShelf
import Derived.Shelf.SlicesQ.Contains
import Derived.Shelf.SlicesQ.Equal
import Derived.Laws.StructEq
namespace Go.Proofs.YtnjiibiafhnmgaaGreatDoor
open Go Go.RowKit

def PredN (g : Nat) (lb : Array Value) (es : List (List ByteArray)) (p : List ByteArray → Bool) (w : World) : Prop :=
  ∀ (W : World) (x : List ByteArray) (r : Value), x ∈ es → Below w.heap.size w W → RowOf Value.string W.heap.size r x W → Calls Tryz.prog g (#[r] ++ lb) W fun e w' => e = .returned (.bool (p x)) ∧ Below W.heap.size W w'
def FirstN (es : List (List ByteArray)) (p : List ByteArray → Bool) (n : Int) : Prop := (n = -1 ∧ ∀ x ∈ es, p x = false) ∨ ∃ i : Nat, i < es.length ∧ n = (i : Int) ∧ p (es.getD i []) = true ∧ ∀ j, j < i → p (es.getD j []) = false
set_option maxRecDepth 100000 in
set_option maxHeartbeats 4000000 in
theorem idx_names (g : Nat) (lb : Array Value) (eg : ∀ args w, (callFunc g args).run Tryz.prog w = .ok (.enter g args) w) (p : List ByteArray → Bool) (v : Value) (es : List (List ByteArray)) (w : World) (hes : es.length ≤ 1000000000) (hE : NamesOf w.heap.size v es w) (hp : PredN g lb es p w) :
    Calls Tryz.prog 30 #[v, .func (.func g) #[] lb] w fun e w' => ∃ n : Int, e = .returned (.int .i64 n) ∧ FirstN es p n ∧ Below w.heap.size w w' := by
  have HE := Lib.hid hE
  obtain ⟨ao, ec, rfl, _⟩ := hE
  have HP := Lib.hid hp
  clear hp
  have hln := len_names ao es.length ec w
  go_enter Tryz.func30, Tryz.ntmps30
  go_wp2_with fail
  try rw [hln]
  clear hln
  go_wp2_with fail
  go_loopw [8] (fun s wr => ∃ k : Nat, k ≤ es.length ∧ s = .int .i64 k ∧ Hid (Below w.heap.size w wr) ∧ Hid (∀ j, j < k → p (es.getD j []) = false)) (fun s _ => es.length - (intOf s).toNat)
  case atStart => exact ⟨0, by omega, rfl, Lib.hid (Below.refl _ _), Lib.hid (fun j hj => absurd hj (Nat.not_lt_zero j))⟩
  case round =>
    obtain ⟨k, hk, rfl, HB, HA⟩ := hrel
    by_cases hlt : k < es.length
    · have hlt2 : (k : Int) < (es.length : Int) := by omega
      obtain ⟨b, off, r, rfl, hd1, hr⟩ := names_at HE.out HB.out hlt
      have HG : Hid (es.getD k [] = es[k]) := Lib.hid (by rw [List.getD_eq_getElem?_getD, List.getElem?_eq_getElem hlt]; rfl)
      have HCALL := Lib.hid (HP.out wr es[k] r (List.getElem_mem hlt) HB.out hr)
      obtain ⟨ra, rc, rfl, _⟩ := rowOf_open hr
      generalize es[k] = x at *
      obtain ⟨q, hq⟩ : ∃ q, p x = q := ⟨_, rfl⟩
      rw [hq] at HCALL
      have HQ := Lib.hid hq
      clear hq hr
      cases q with
      | true =>
        go_wp2_with (go_at_fn g; refine HCALL.out.mono ?_; rintro e w' ⟨rfl, hb'⟩)
        have HB' := Lib.hid (HB.out.trans (hb'.mono HB.out.size))
        clear hb'
        go_wp2_with fail
        go_ret
        exact ⟨k, rfl, .inr ⟨k, hlt, rfl, by rw [HG.out]; exact HQ.out, HA.out⟩, HB'.out⟩
      | false =>
        go_wp2_with (go_at_fn g; refine HCALL.out.mono ?_; rintro e w' ⟨rfl, hb'⟩)
        have HB' := Lib.hid (HB.out.trans (hb'.mono HB.out.size))
        clear hb'
        go_wp2_with fail
        all_goals
          refine ⟨⟨k + 1, by omega, by go_num, HB', Lib.hid (fun j hj => ?_)⟩, ?_⟩
          · by_cases hjk : j < k
            · exact HA.out j hjk
            · obtain rfl : j = k := by omega
              rw [HG.out]; exact HQ.out
          · simp [intOf]; omega
    · have hkk : k = es.length := by omega
      have HN : Hid (∀ x ∈ es, p x = false) := Lib.hid (fun x hx => by
        obtain ⟨j, hj, rfl⟩ := List.mem_iff_getElem.1 hx
        have := HA.out j (by omega)
        rwa [List.getD_eq_getElem?_getD, List.getElem?_eq_getElem hj] at this)
      clear HA hkk
      go_wp2_with fail
      go_ret
      exact ⟨-1, rfl, .inl ⟨rfl, HN.out⟩, HB.out⟩
set_option maxRecDepth 100000 in
theorem has_names (g : Nat) (lb : Array Value) (eg : ∀ args w, (callFunc g args).run Tryz.prog w = .ok (.enter g args) w) (p : List ByteArray → Bool) (v : Value) (es : List (List ByteArray)) (w : World) (hes : es.length ≤ 1000000000) (hE : NamesOf w.heap.size v es w) (hp : PredN g lb es p w) :
    Calls Tryz.prog 35 #[v, .func (.func g) #[] lb] w fun e w' => e = .returned (.bool (es.any p)) ∧ Below w.heap.size w w' := by
  have HI := Lib.hid (idx_names g lb eg p v es w hes hE hp)
  obtain ⟨ao, ec, rfl, _⟩ := hE
  clear hp eg
  go_enter Tryz.func35, Tryz.ntmps35
  go_wp2_with fail
  refine HI.out.mono ?_
  rintro e w' ⟨n, rfl, hn, hb⟩
  have HB := Lib.hid hb
  rcases hn with ⟨rfl, hn⟩ | ⟨i, hi, rfl, hpi, _⟩
  · have HR : Hid (es.any p = false) := Lib.hid (List.any_eq_false.2 fun x hx => by rw [hn x hx]; simp)
    clear hn hb
    go_wp2_with fail
    go_ret
    exact ⟨by rw [HR.out]; rfl, HB.out⟩
  · have HR : Hid (es.any p = true) := Lib.hid (List.any_eq_true.2 ⟨es.getD i [], by rw [List.getD_eq_getElem?_getD, List.getElem?_eq_getElem hi]; exact List.getElem_mem hi, hpi⟩)
    have h0 : (0 : Int) ≤ (i : Int) := Int.natCast_nonneg i
    have h1 : decide ((0 : Int) ≤ (i : Int)) = true := decide_eq_true h0
    clear hpi hb
    go_wp2_with fail
    go_ret
    exact ⟨by rw [HR.out]; rfl, HB.out⟩
set_option maxRecDepth 100000 in
theorem back1_any (G : List ByteArray) (hG : G.length ≤ 1000000000) (y : List ByteArray) (hy : y.length ≤ 1000000000) (c : Nat) (gv r : Value) (W : World) (hc : W.cell? ⟨c, 0, none⟩ = some gv) (hg : RowOf Value.string W.heap.size gv G W) (hr : RowOf Value.string W.heap.size r y W) :
    Calls Tryz.prog 36 #[r, .pointer (some ⟨c, 0, none⟩)] W fun e w' => e = .returned (.bool (decide (y = G))) ∧ Below W.heap.size W w' := by
  have HEQ := Lib.hid (equal_rows r gv y G W hy hG hr hg)
  obtain ⟨ga, gc, rfl, _⟩ := rowOf_open hg
  obtain ⟨ra, rc, rfl, _⟩ := rowOf_open hr
  generalize decide (y = G) = q at *
  clear hg hr
  go_enter Tryz.func36, Tryz.ntmps36
  go_wp2_with fail
  refine HEQ.out.mono ?_
  rintro e w' ⟨rfl, hb⟩
  have HB := Lib.hid hb
  clear hb
  go_wp2_with fail
  go_ret
  exact ⟨rfl, HB.out⟩
set_option maxRecDepth 100000 in
theorem one1_any (y : List ByteArray) (_hy : y.length ≤ 1000000000) (r : Value) (W : World) (hr : RowOf Value.string W.heap.size r y W) :
    Calls Tryz.prog 38 #[r] W fun e w' => e = .returned (.bool (!decide (y.length = 1))) ∧ Below W.heap.size W w' := by
  obtain ⟨ra, rc, rfl, _⟩ := rowOf_open hr
  clear hr
  by_cases h : y.length = 1
  · have h1 : ((y.length : Int) != 1) = false := by rw [h]; rfl
    rw [decide_eq_true h]
    go_enter Tryz.func38, Tryz.ntmps38
    go_wp2_with fail
    go_ret
    exact ⟨rfl, Below.refl _ _⟩
  · have h1 : ((y.length : Int) != 1) = true := by simp; omega
    have h2 : ¬ ((y.length : Int) = 1) := by omega
    rw [decide_eq_false h]
    go_enter Tryz.func38, Tryz.ntmps38
    go_wp2_with fail
    go_ret
    exact ⟨by first | rfl | simp [h1, h2, h], Below.refl _ _⟩
set_option maxRecDepth 100000 in
theorem whole1_any (p : ByteArray) (G : List ByteArray) (y : List ByteArray) (hy : y.length ≤ 1000000000) (hGl : G.length ≤ 1000000000) (c : Nat) (gv r : Value) (W : World) (hc : W.cell? ⟨c, 0, none⟩ = some gv) (hg : RowOf Value.string W.heap.size gv (p :: G) W) (hr : RowOf Value.string W.heap.size r y W) :
    Calls Tryz.prog 31 #[r, .pointer (some ⟨c, 0, none⟩)] W fun e w' => e = .returned (.bool (decide (p ∈ y))) ∧ Below W.heap.size W w' := by
  have HCO := Lib.hid (contains_row r y p W hy hr)
  rcases hg with ⟨h0, _⟩ | ⟨b, off, gc, rfl, hb, hg⟩
  · cases h0
  have d0 := hg 0 p rfl
  rw [Nat.add_zero] at d0
  obtain ⟨ra, rc, rfl, _⟩ := rowOf_open hr
  obtain ⟨n, hn⟩ : ∃ n, (p :: G).length = n + 1 := ⟨G.length, rfl⟩
  have hn9 : n + 1 ≤ 1000000001 := by rw [← hn, List.length_cons]; omega
  rw [hn] at hc
  have hn0 : (0 : Int) < ((n + 1 : Nat) : Int) := by omega
  have hn1 : decide ((0 : Int) < ((n + 1 : Nat) : Int)) = true := decide_eq_true hn0
  generalize decide (p ∈ y) = q at *
  clear hg hr hn
  go_enter Tryz.func31, Tryz.ntmps31
  go_wp2_with fail
  refine HCO.out.mono ?_
  rintro e w' ⟨rfl, rfl⟩
  go_wp2_with fail
  go_ret
  exact ⟨rfl, Below.refl _ _⟩
set_option maxRecDepth 100000 in
theorem whole2_any (s : ByteArray) (L : List (List ByteArray)) (i : Nat) (hi : i < L.length) (_hl : L.length ≤ 1000000000) (hLi : L[i].length ≤ 1000000000) (c c2 : Nat) (pv : Value) (W : World) (hc : W.cell? ⟨c, 0, none⟩ = some pv) (hc2 : W.cell? ⟨c2, 0, none⟩ = some (.int .i64 (i : Int))) (hL : NamesOf W.heap.size pv L W) :
    Calls Tryz.prog 33 #[.string s, .pointer (some ⟨c, 0, none⟩), .pointer (some ⟨c2, 0, none⟩)] W fun e w' => e = .returned (.bool (!decide (s ∈ L[i]))) ∧ Below W.heap.size W w' := by
  obtain ⟨la, lc, rfl⟩ : ∃ a c, pv = .slice a L.length c := by obtain ⟨a, c, e, _⟩ := hL; exact ⟨a, c, e⟩
  obtain ⟨b, off, r, rfl, d0, hr⟩ := names_at hL (Below.refl _ _) hi
  have HCO := Lib.hid (contains_row r L[i] s W hLi hr)
  obtain ⟨ra, rc, rfl, _⟩ := rowOf_open hr
  have hi0 : (0 : Int) ≤ (i : Int) := Int.natCast_nonneg i
  have hi1 : (i : Int) < (L.length : Int) := Int.ofNat_lt.2 hi
  generalize decide (s ∈ L[i]) = q at *
  generalize L[i] = y at *
  clear hL hr
  go_enter Tryz.func33, Tryz.ntmps33
  go_wp2_with fail
  refine HCO.out.mono ?_
  rintro e w' ⟨rfl, rfl⟩
  go_wp2_with fail
  go_ret
  exact ⟨rfl, Below.refl _ _⟩
end Go.Proofs.YtnjiibiafhnmgaaGreatDoor

namespace Go.Proofs.YtnjiibiafhnmgaaGreatDoor
set_option linter.unusedVariables false
set_option linter.unusedSimpArgs false
open Go Go.RowKit Go.Shelf Go.Lib

def edgeRen : Ren := ⟨fun x => if x = 6 then 65 else if x = 7 then 34 else 21, fun x => if x = 0 then 0 else if x = 3 then 3 else if x = 4 then 4 else if x = 22 then 30 else 43, fun x => x⟩
theorem edgeLays7 : SlLaysQ.n7 Tryz.prog edgeRen := {
  mixed := by kernel_rfl
  f6 := ⟨Tryz.f65.name, by decide, Tryz.func65.trans (congrArg some (by kernel_rfl))⟩
  f7 := ⟨Tryz.f34.name, by decide, Tryz.func34.trans (congrArg some (by kernel_rfl))⟩
  t0 := Tryz.underlying0
  a0 := Tryz.isAgg0
  z0 := Tryz.sizeOf0
  v0 := Tryz.zeroValue0
  t3 := Tryz.underlying3
  a3 := Tryz.isAgg3
  z3 := Tryz.sizeOf3
  v3 := Tryz.zeroValue3
  t4 := Tryz.underlying4
  a4 := Tryz.isAgg4
  z4 := Tryz.sizeOf4
  v4 := Tryz.zeroValue4
  t22 := Tryz.underlying30
  a22 := Tryz.isAgg30
  z22 := Tryz.sizeOf30
  v22 := Tryz.zeroValue30 }
def edgeC (x : Int × Int) : List Value := [.int .i64 x.1, .int .i64 x.2]
theorem edge_eql : EqlAt Tryz.prog 43 (fun x => .agg (edgeC x).toArray) (fun x y => x.1 == y.1 && x.2 == y.2) := by
  refine ⟨fun x y w => ?_, GuardAt.agg _ (by kernel_rfl)⟩
  have u3 := Tryz.underlying3
  have a3 := Tryz.isAgg3
  have z3 := Tryz.sizeOf3
  have hS : Tryz.prog.underlying 43 = some (.struct (Tryz.prog.fieldsOf 43)) := by kernel_rfl
  have hp : Tryz.prog.stoodInHeld 43 = false := by kernel_rfl
  simp only [edgeC]
  rw [run_eql_struct, show (10000 : Nat) = 9999 + 1 from rfl, run_equalIn_agg w 9999 43 _ _ hS hp]
  simp only [Program.fieldsOf, Tryz.underlying43]
  go_simp
  by_cases h1 : x.fst = y.fst <;> by_cases h2 : x.snd = y.snd <;> simp [h1, h2]
theorem pair_beq (x y : Int × Int) : (x.1 == y.1 && x.2 == y.2) = decide (x = y) := by
  obtain ⟨a, b⟩ := x
  obtain ⟨c, d⟩ := y
  by_cases h1 : a = c <;> by_cases h2 : b = d <;> simp [h1, h2]
theorem edges_cells {B b off cap : Nat} {es : List (Int × Int)} {w : World} (h : EdgesOf B (.slice (some ⟨b, off, none⟩) es.length cap) es w) : ∀ j, j < es.length → ∀ i v, (edgeC es[j]!)[i]? = some v → w.cell? ⟨b, off + j * 2 + i, none⟩ = some v := by
  obtain ⟨ao, c, e, h⟩ := h
  cases e
  intro j hj i v hv
  rw [getElem!_pos es j hj] at hv
  obtain ⟨b', off', e, _, h1, h2⟩ := h j es[j] (by simp [hj])
  cases e
  match i, hv with
  | 0, hv => cases hv; exact h1
  | 1, hv => cases hv; exact h2
  | i + 2, hv => simp [edgeC] at hv
theorem EdgeContains_any (v : Value) (es : List (Int × Int)) (x y : Int) (w : World) (hes : es.length ≤ 1000000000) (hpos : 0 < es.length) (hE : EdgesOf w.heap.size v es w) :
    Calls Tryz.prog 34 #[v, .agg #[.int .i64 x, .int .i64 y]] w fun e w' => e = .returned (.bool (decide ((x, y) ∈ es))) ∧ Below w.heap.size w w' := by
  have hE0 := hE
  obtain ⟨ao, c, rfl, h⟩ := hE
  obtain ⟨b, off, rfl, _⟩ := h 0 es[0] (by simp [hpos])
  refine (AnyQ.slices_Contains edgeLays7 2 Tryz.isAgg43 Tryz.sizeOf43 edgeC (fun _ => rfl) _ edge_eql b off es.length c es (x, y) w (Nat.le_refl _) (by omega) (edges_cells hE0)).mono ?_
  rintro e w' ⟨rfl, hb⟩
  refine ⟨?_, hb⟩
  congr 2
  rw [List.take_length]
  by_cases hm : (x, y) ∈ es
  · rw [decide_eq_true hm, List.any_eq_true]
    exact ⟨_, hm, by simp⟩
  · rw [decide_eq_false hm, ← Bool.not_eq_true, List.any_eq_true]
    rintro ⟨z, hz, he⟩
    rw [pair_beq, decide_eq_true_eq] at he
    exact hm (he ▸ hz)
end Go.Proofs.YtnjiibiafhnmgaaGreatDoor
