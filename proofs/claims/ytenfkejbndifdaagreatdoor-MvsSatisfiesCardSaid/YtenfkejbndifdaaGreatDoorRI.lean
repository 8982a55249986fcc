/- The library's Contains and Equal at what names releases. -/
import Derived.Test.YtenfkejbndifdaaGreatDoorQM
import Derived.Test.YtenfkejbndifdaaGreatDoorQL
import Derived.Test.YtenfkejbndifdaaGreatDoorShelf
import Derived.Shelf.SlicesQ.Contains
import Derived.Shelf.SlicesQ.Equal
import Derived.Laws.StructEq
namespace Go.Proofs.YtenfkejbndifdaaGreatDoor
set_option linter.unusedVariables false
set_option linter.unusedSimpArgs false
open Go Go.RowKit Go.Shelf Go.Lib

def selRen : Ren := ⟨fun x => if x = 6 then 112 else if x = 7 then 65 else 24, fun x => if x = 0 then 0 else if x = 3 then 3 else if x = 4 then 4 else if x = 22 then 27 else 43, fun x => x⟩
theorem selLays7 : SlLaysQ.n7 Tryz.prog selRen := {
  mixed := by kernel_rfl
  f6 := ⟨Tryz.f112.name, by decide, Tryz.func112.trans (congrArg some (by kernel_rfl))⟩
  f7 := ⟨Tryz.f65.name, by decide, Tryz.func65.trans (congrArg some (by kernel_rfl))⟩
  t0 := Tryz.underlying0
  a0 := Tryz.isAgg0
  z0 := Tryz.sizeOf0
  v0 := Tryz.zeroValue0
  t3 := Tryz.underlying3
  a3 := Tryz.isAgg3
  z3 := Tryz.sizeOf3
  v3 := Tryz.zeroValue3
  t4 := Tryz.underlying4
  a4 := Tryz.isAgg4
  z4 := Tryz.sizeOf4
  v4 := Tryz.zeroValue4
  t22 := Tryz.underlying27
  a22 := Tryz.isAgg27
  z22 := Tryz.sizeOf27
  v22 := Tryz.zeroValue27 }
theorem selLays8 : SlLaysQ.n8 Tryz.prog selRen := {
  mixed := by kernel_rfl
  f8 := ⟨Tryz.f24.name, by decide, Tryz.func24.trans (congrArg some (by kernel_rfl))⟩
  t0 := Tryz.underlying0
  a0 := Tryz.isAgg0
  z0 := Tryz.sizeOf0
  v0 := Tryz.zeroValue0
  t3 := Tryz.underlying3
  a3 := Tryz.isAgg3
  z3 := Tryz.sizeOf3
  v3 := Tryz.zeroValue3
  t4 := Tryz.underlying4
  a4 := Tryz.isAgg4
  z4 := Tryz.sizeOf4
  v4 := Tryz.zeroValue4
  t22 := Tryz.underlying27
  a22 := Tryz.isAgg27
  z22 := Tryz.sizeOf27
  v22 := Tryz.zeroValue27 }
set_option maxRecDepth 100000 in
theorem sel_neq : NeqAt Tryz.prog 43 (fun x => .agg (selC x).toArray) (fun x y => decide (x = y)) := by
  refine ⟨fun x y w => ?_, GuardAt.agg _ (by kernel_rfl)⟩
  have hS : Tryz.prog.underlying 43 = some (.struct (Tryz.prog.fieldsOf 43)) := by kernel_rfl
  have hp : Tryz.prog.stoodInHeld 43 = false := by kernel_rfl
  simp only [selC]
  rw [run_neq_struct, show (10000 : Nat) = 9999 + 1 from rfl, run_equalIn_agg w 9999 43 _ _ hS hp]
  clear hS hp
  obtain ⟨d, hd⟩ : ∃ d, (9999 : Nat) = d + 9 := ⟨9990, rfl⟩
  rw [hd]
  clear hd
  have u9 := Tryz.underlying9
  have a9 := Tryz.isAgg9
  have z9 := Tryz.sizeOf9
  have a4 := Tryz.isAgg41
  have z4 := Tryz.sizeOf41
  have hv := ver_equal
  simp only [Program.fieldsOf, Tryz.underlying43]
  go_simp
  obtain ⟨xp, x1, x2, x3⟩ := x
  obtain ⟨yp, y1, y2, y3⟩ := y
  by_cases h0 : xp.toList = yp.toList
  · have h0' := bytes_inj h0
    subst h0'
    by_cases h1 : x1 = y1 <;> by_cases h2 : x2 = y2 <;> by_cases h3 : x3 = y3 <;> simp [h1, h2, h3]
  · have h0' : ¬ xp = yp := fun e => h0 (by rw [e])
    simp [h0, h0']
theorem sels_cells {B b off cap : Nat} {es : List SelL} {w : World} (h : SelsOf B (.slice (some ⟨b, off, none⟩) es.length cap) es w) : ∀ j, j < es.length → ∀ i v, (selC es[j]!)[i]? = some v → w.cell? ⟨b, off + j * 4 + i, none⟩ = some v := by
  obtain ⟨ao, c, e, h⟩ := h
  cases e
  intro j hj i v hv
  rw [getElem!_pos es j hj] at hv
  obtain ⟨b', off', e, _, h1, h2, h3, h4⟩ := h j es[j] (by simp [hj])
  cases e
  match i, hv with
  | 0, hv => cases hv; exact h1
  | 1, hv => cases hv; exact h2
  | 2, hv => cases hv; exact h3
  | 3, hv => cases hv; exact h4
  | i + 4, hv => simp [selC] at hv
set_option maxRecDepth 100000 in
open Classical in
/-- slices.Contains at what names releases. -/
theorem con_sel (v : Value) (es : List SelL) (y : SelL) (w : World) (hes : es.length ≤ 1000000000) (hE : SelsOf w.heap.size v es w) :
    Calls Tryz.prog 65 #[v, .agg #[.string y.1, .int .i64 y.2.1, .int .i64 y.2.2.1, .int .i64 y.2.2.2]] w fun e w' => e = .returned (.bool (decide (y ∈ es))) ∧ Below w.heap.size w w' := by
  by_cases hp : 0 < es.length
  · have hE0 := hE
    obtain ⟨ao, c, rfl, h⟩ := hE
    obtain ⟨b, off, rfl, _⟩ := h 0 es[0] (by simp [hp])
    refine (AnyQ.slices_Contains selLays7 4 Tryz.isAgg43 Tryz.sizeOf43 selC (fun _ => rfl) _ sel_eql b off es.length c es y w (Nat.le_refl _) (by omega) (sels_cells hE0)).mono ?_
    rintro e w' ⟨rfl, hb⟩
    refine ⟨?_, hb⟩
    congr 2
    rw [List.take_length]
    by_cases hm : y ∈ es
    · rw [decide_eq_true hm, List.any_eq_true]
      exact ⟨_, hm, by simp⟩
    · rw [decide_eq_false hm, ← Bool.not_eq_true, List.any_eq_true]
      rintro ⟨z, hz, he⟩
      rw [decide_eq_true_eq] at he
      exact hm (he ▸ hz)
  · have : es = [] := List.length_eq_zero_iff.1 (by omega)
    subst this
    obtain ⟨ao, c, rfl, _⟩ := hE
    have HIX : Hid (∀ W, Calls Tryz.prog 112 #[.slice ao 0 c, .agg #[.string y.1, .int .i64 y.2.1, .int .i64 y.2.2.1, .int .i64 y.2.2.2]] W fun e w' => e = .returned (.int .i64 (-1)) ∧ Below W.heap.size W w') := Lib.hid (fun W => by
      go_enter Tryz.func112, Tryz.ntmps112
      go_wp2_with fail
      go_loopw [8] (fun q wr => q = .int .i64 0 ∧ Hid (Below W.heap.size W wr)) (fun _ _ => 0)
      case atStart => exact ⟨rfl, Lib.hid ((Below.refl _ _).alloc (Nat.le_refl _) _)⟩
      case round =>
        obtain ⟨rfl, HB⟩ := hrel
        go_wp2_with fail
        go_ret
        exact ⟨rfl, HB.out⟩)
    go_enter Tryz.func65, Tryz.ntmps65
    go_wp2_with fail
    refine (HIX.out _).mono ?_
    rintro e w1 ⟨rfl, hb1⟩
    go_wp2_with fail
    go_ret
    exact ⟨by simp, (belQ w _).trans (hb1.mono (by simp))⟩
theorem allEq_eq : ∀ {l m : List SelL}, Lib.allEq (fun x y => decide (x = y)) l m = decide (l = m)
  | [], [] => rfl
  | [], _ :: _ => by simp [Lib.allEq]
  | _ :: _, [] => by simp [Lib.allEq]
  | x :: l, y :: m => by
    unfold Lib.allEq
    rw [allEq_eq]
    by_cases h1 : x = y <;> by_cases h2 : l = m <;> simp [h1, h2]
set_option maxRecDepth 100000 in
/-- slices.Equal at what names releases. -/
theorem eq_sels (v u : Value) (l m : List SelL) (w : World) (hl : l.length ≤ 1000000000) (hm : m.length ≤ 1000000000) (h1 : SelsOf w.heap.size v l w) (h2 : SelsOf w.heap.size u m w) :
    Calls Tryz.prog 24 #[v, u] w fun e w' => e = .returned (.bool (decide (l = m))) ∧ Below w.heap.size w w' := by
  have g1 := h1
  have g2 := h2
  obtain ⟨a1, c1, rfl, k1⟩ := h1
  obtain ⟨a2, c2, rfl, k2⟩ := h2
  by_cases hlm : l.length = m.length
  · by_cases hp : 0 < l.length
    · obtain ⟨b1, o1, rfl, _⟩ := k1 0 l[0] (by simp [hp])
      obtain ⟨b2, o2, rfl, _⟩ := k2 0 m[0] (by simp [show 0 < m.length by omega])
      refine (AnyQ.slices_Equal selLays8 4 Tryz.isAgg43 Tryz.sizeOf43 selC (fun _ => rfl) _ sel_neq b1 o1 l.length c1 b2 o2 m.length c2 l m w (Nat.le_refl _) (Nat.le_refl _) (by omega) (by omega) (sels_cells g1) (sels_cells g2)).mono ?_
      rintro e w' ⟨rfl, q, rfl⟩
      refine ⟨?_, below_drewN_q (Below.refl _ _) _⟩
      rw [List.take_length, List.take_length, allEq_eq]
    · have e1 : l = [] := List.length_eq_zero_iff.1 (by omega)
      have e2 : m = [] := List.length_eq_zero_iff.1 (by omega)
      subst e1
      subst e2
      clear k1 k2 g1 g2 hlm hp hl hm
      go_enter Tryz.func24, Tryz.ntmps24
      go_wp2_with fail
      go_loopw [13] (fun q wr => q = .int .i64 0 ∧ wr = w) (fun _ _ => 0)
      case atStart => exact ⟨rfl, rfl⟩
      case round =>
        obtain ⟨rfl, rfl⟩ := hrel
        go_wp2_with fail
        go_ret
        exact ⟨by simp, Below.refl _ _⟩
  · have hne : ((l.length : Int) != (m.length : Int)) = true := by simp; omega
    have hd : decide (l = m) = false := decide_eq_false fun e => hlm (by rw [e])
    rw [hd]
    clear k1 k2 g1 g2
    go_enter Tryz.func24, Tryz.ntmps24
    go_wp2_with fail
    go_ret
    exact ⟨rfl, Below.refl _ _⟩
end Go.Proofs.YtenfkejbndifdaaGreatDoor
