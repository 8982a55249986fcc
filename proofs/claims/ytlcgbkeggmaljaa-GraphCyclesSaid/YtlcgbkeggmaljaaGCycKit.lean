/- What the law GraphCycles compares. -/
import Derived.Test.YtlcgbkeggmaljaaGRCycle
namespace Go.Proofs.Ytlcgbkeggmaljaa
set_option linter.unusedVariables false
set_option linter.unusedSimpArgs false
open Go Go.RowKit

set_option maxRecDepth 100000 in
set_option maxHeartbeats 4000000 in
theorem rReverse_no (na : Option Addr) (nc : Nat) (ev : Value) (ns : List ByteArray) (es : List (Int × Int)) (w : World) (hN : ns.length ≤ 1000000000) (hes : es.length ≤ 1000000000) (hE : EdgesOf w.heap.size ev es w) (hval : validG ns.length es = false) :
    Calls Try.prog 18 #[.agg #[.slice na ns.length nc, ev]] w fun e w' => e = .returned (.agg #[.slice none 0 0, .slice none 0 0]) ∧ Below w.heap.size w w' := by
  have hb1 : Below w.heap.size w ((w.alloc (.cells #[.slice na ns.length nc, ev] 25)).alloc (.cells #[.slice none 0 0, .slice none 0 0] 25)) := ((Below.refl _ _).alloc (Nat.le_refl _) _).alloc (by simp) _
  have hv := rValid_any na ns.length nc ev es _ (by omega) (by omega) ((hE.below hb1 (Nat.le_refl _)).mono hb1.size)
  rw [hval] at hv
  have hnew : ((w.alloc (.cells #[.slice na ns.length nc, ev] 25)).alloc (.cells #[.slice none 0 0, .slice none 0 0] 25)).heap[w.heap.size + 1]? = some (.cells #[.slice none 0 0, .slice none 0 0] 25 (0, 0)) := by
    have := World.alloc_heap_new (w.alloc (.cells #[.slice na ns.length nc, ev] 25)) (.cells #[.slice none 0 0, .slice none 0 0] 25)
    rw [World.size_alloc] at this
    exact this
  have HNEW := Lib.hid hnew
  obtain ⟨ao, ec, rfl, _⟩ := hE
  have HV := Lib.hid hv
  have HB1 := Lib.hid hb1
  clear hv hb1 hval hnew
  go_enter Try.func18, Try.ntmps18
  go_wp2_with fail
  refine HV.out.mono ?_
  rintro e w1 ⟨rfl, hb⟩
  have hs1 := hb.size
  simp at hs1
  have hr1 := (hb.block (w.heap.size + 1) (by simp)).trans HNEW.out
  have hc0 : w1.cell? ⟨w.heap.size + 1, 0, none⟩ = some (.slice none 0 0) := cell_of_row _ _ 0 _ _ _ hr1
  have hc1 : w1.cell? ⟨w.heap.size + 1, 1, none⟩ = some (.slice none 0 0) := cell_of_row _ _ 1 _ _ _ hr1
  have hf := frozen_of_row _ _ 0 _ _ hr1
  have hf1 := frozen_of_row _ _ 1 _ _ hr1
  have HB := Lib.hid hb
  have hr1b := Lib.hid hr1
  clear hb hr1
  go_wp2_with fail
  have HRB := set_two (x' := .slice none 0 0) (y' := .slice none 0 0) hr1b.out
  have z0 : ((w1.setCell ⟨w.heap.size + 1, 0, none⟩ (.slice none 0 0)).setCell ⟨w.heap.size + 1, 1, none⟩ (.slice none 0 0)).cell? ⟨w.heap.size + 1, 0, none⟩ = some (.slice none 0 0) := cell_of_row _ _ 0 _ _ _ HRB
  have z1 : ((w1.setCell ⟨w.heap.size + 1, 0, none⟩ (.slice none 0 0)).setCell ⟨w.heap.size + 1, 1, none⟩ (.slice none 0 0)).cell? ⟨w.heap.size + 1, 1, none⟩ = some (.slice none 0 0) := cell_of_row _ _ 1 _ _ _ HRB
  clear HRB hc0 hc1 hf hf1
  refine bodyPost_ret (v := .agg #[.slice none 0 0, .slice none 0 0]) (by simp [results, Try.results18, go_sem, z0, z1]) rfl ⟨rfl, ?_⟩
  exact ((HB1.out.trans (HB.out.mono (by simp; omega))).setCell (by show w.heap.size ≤ w.heap.size + 1; omega) _).setCell (by show w.heap.size ≤ w.heap.size + 1; omega) _
/-- a reversed graph: what it reads as. -/
def RevP (ns : List ByteArray) (es : List (Int × Int)) (W : World) (v : Value) : Prop := ∃ a c e k, v = .agg #[.slice a (revN ns es).length c, .slice e (revE ns.length es).length k] ∧ RowOf Value.string W.heap.size (.slice a (revN ns es).length c) (revN ns es) W ∧ EdgesOf W.heap.size (.slice e (revE ns.length es).length k) (revE ns.length es) W
theorem Reverse_con (na : Option Addr) (nc : Nat) (ev : Value) (ns : List ByteArray) (es : List (Int × Int)) (w : World) (hes : es.length ≤ 1000000000) (hE : EdgesOf w.heap.size ev es w) (hN : RowOf Value.string w.heap.size (.slice na ns.length nc) ns w) :
    Calls Try.prog 17 #[.agg #[.slice na ns.length nc, ev]] w fun e w' => ∃ v, e = .returned v ∧ RevP ns es w' v ∧ Below w.heap.size w w' := by
  refine (Reverse_any _ ev ns es w (by omega) hE hN).mono ?_
  rintro e w' ⟨a, c, v', rfl, h1, h2, h3⟩
  have h2' := h2
  obtain ⟨ao, k, rfl, _⟩ := h2
  exact ⟨_, rfl, ⟨a, c, ao, k, rfl, h1, h2'⟩, h3⟩
theorem rReverse_con (na : Option Addr) (nc : Nat) (ev : Value) (ns : List ByteArray) (es : List (Int × Int)) (w : World) (hNl : ns.length ≤ 1000000000) (hes : es.length ≤ 1000000000) (hE : EdgesOf w.heap.size ev es w) (hN : RowOf Value.string w.heap.size (.slice na ns.length nc) ns w) :
    Calls Try.prog 18 #[.agg #[.slice na ns.length nc, ev]] w fun e w' => ∃ v, e = .returned v ∧ RevP ns es w' v ∧ Below w.heap.size w w' := by
  unfold RevP revN revE
  by_cases hv : validG ns.length es = true
  · simp only [hv, if_true]
    refine (rReverse_yes na nc ev ns es w hE hN hv).mono ?_
    rintro e w' ⟨a, c, v', rfl, h1, h2, h3⟩
    have h2' := h2
    obtain ⟨ao, k, rfl, _⟩ := h2
    exact ⟨_, rfl, ⟨a, c, ao, k, rfl, h1, h2'⟩, h3⟩
  · simp only [hv, if_false, Bool.false_eq_true]
    refine (rReverse_no na nc ev ns es w hNl hes hE (by simpa using hv)).mono ?_
    rintro e w' ⟨rfl, h3⟩
    exact ⟨_, rfl, ⟨none, 0, none, 0, rfl, .inl ⟨rfl, _, _, rfl⟩, ⟨none, 0, rfl, fun i x hx => by simp at hx⟩⟩, h3⟩
/-- the shortest cycle of a graph, if it is valid. -/
def CycV (N : Nat) (es : List (Int × Int)) (l : List Nat) : Prop := l = if validG N es = true then cycF N es N else []
theorem cycle_con (na : Option Addr) (nc : Nat) (ev : Value) (ns : List ByteArray) (es : List (Int × Int)) (w : World) (hNl : ns.length ≤ 1000000000) (hes : es.length ≤ 1000000000) (hE : EdgesOf w.heap.size ev es w) (hN : RowOf Value.string w.heap.size (.slice na ns.length nc) ns w) :
    RCon 21 #[.agg #[.slice na ns.length nc, ev]] (CycV ns.length es) w := by
  intro W hW
  have hE' := (hE.below hW (Nat.le_refl _)).mono hW.size
  have hN' := (hN.below hW (Nat.le_refl _)).mono hW.size
  unfold CycV
  by_cases hv : validG ns.length es = true
  · simp only [hv, if_true]
    refine (Cycle_yes _ ev ns es W hE' hN' hv).mono ?_
    rintro e w' ⟨v, rfl, ho, hb, _⟩
    refine ⟨v, _, rfl, rfl, row_of_own ho, ?_, hb⟩
    have h1 := rcAll_eq (N := ns.length) (es := es) ns.length (Nat.le_refl _)
    by_cases hC : cycF ns.length es ns.length = []
    · rw [hC]; simp
    · have hcp := cycF_cyc hC
      have hp : (cycF ns.length es ns.length).Perm ((List.range ns.length).filter fun k => decide (k ∈ cycF ns.length es ns.length)) := (List.perm_ext_iff_of_nodup hcp.nod (List.nodup_range.filter _)).2 fun k => by
        rw [List.mem_filter, List.mem_range, decide_eq_true_eq]
        exact ⟨fun hk => ⟨hcp.lt k hk, hk⟩, fun hk => hk.2⟩
      rw [hp.length_eq]
      have := List.length_filter_le (fun k => decide (k ∈ cycF ns.length es ns.length)) (List.range ns.length)
      rw [List.length_range] at this
      omega
  · simp only [hv, if_false, Bool.false_eq_true]
    refine (Cycle_no _ ev ns es W (by omega) (by omega) hE' hN' (by simpa using hv)).mono ?_
    rintro e w' ⟨rfl, hb⟩
    exact ⟨_, [], rfl, rfl, .inl ⟨rfl, _, _, rfl⟩, by simp, hb⟩
theorem rcycle_con (na : Option Addr) (nc : Nat) (ev : Value) (ns : List ByteArray) (es : List (Int × Int)) (w : World) (hNl : ns.length ≤ 1000000000) (hes : es.length ≤ 1000000000) (hE : EdgesOf w.heap.size ev es w) :
    RCon 22 #[.agg #[.slice na ns.length nc, ev]] (CycV ns.length es) w := by
  intro W hW
  have hE' := (hE.below hW (Nat.le_refl _)).mono hW.size
  unfold CycV
  by_cases hv : validG ns.length es = true
  · simp only [hv, if_true]
    refine (rCycle_yes na nc ev ns es W hE' hv).mono ?_
    rintro e w' ⟨v, rfl, hr, hl, hb⟩
    obtain ⟨hn, _⟩ := validG_n hv
    rw [(rcAll_eq (N := ns.length) (es := es) ns.length (Nat.le_refl _)).1] at hr hl
    exact ⟨v, _, rfl, rfl, rowOf_cast hr, by omega, hb⟩
  · simp only [hv, if_false, Bool.false_eq_true]
    refine (rCycle_no na nc ev ns es W hNl hes hE' (by simpa using hv)).mono ?_
    rintro e w' ⟨rfl, hb⟩
    exact ⟨_, [], rfl, rfl, .inl ⟨rfl, _, _, rfl⟩, by simp, hb⟩
/-- what is known of the two reversed graphs and their boxes between any two operations. -/
structure RevJ (ns' : List ByteArray) (es' : List (Int × Int)) (B : Nat) (w0 w : World) (l1 l3 l4 l5 l6 l7 : Bool) (s3 s4 s11 s13 : Value) (a1 a3 e1 e3 : Option Addr) (c1 c3 k1 k3 b4 b5 : Nat) : Prop where
  bel : Below B w0 w
  hB : B ≤ w.heap.size
  m1 : l1 = true → s11 = .agg #[.slice a1 ns'.length c1, .slice e1 es'.length k1] ∧ RowOf Value.string w.heap.size (.slice a1 ns'.length c1) ns' w ∧ EdgesOf w.heap.size (.slice e1 es'.length k1) es' w
  m3 : l3 = true → s13 = .agg #[.slice a3 ns'.length c3, .slice e3 es'.length k3] ∧ RowOf Value.string w.heap.size (.slice a3 ns'.length c3) ns' w ∧ EdgesOf w.heap.size (.slice e3 es'.length k3) es' w
  p4 : l4 = true → s3 = .pointer (some ⟨b4, 0, none⟩) ∧ B ≤ b4 ∧ w.heap[b4]? = some (.cells (if l6 = true then #[.slice a1 ns'.length c1, .slice e1 es'.length k1] else #[.slice none 0 0, .slice none 0 0]) 25 (0, 0))
  p5 : l5 = true → s4 = .pointer (some ⟨b5, 0, none⟩) ∧ B ≤ b5 ∧ w.heap[b5]? = some (.cells (if l7 = true then #[.slice a3 ns'.length c3, .slice e3 es'.length k3] else #[.slice none 0 0, .slice none 0 0]) 25 (0, 0))
  d45 : l4 = true → l5 = true → b4 ≠ b5
  o6 : l6 = true → l1 = true ∧ l4 = true
  o7 : l7 = true → l3 = true ∧ l5 = true
section
variable {ns' : List ByteArray} {es' : List (Int × Int)} {B : Nat} {w0 w w' : World} {l1 l3 l4 l5 l6 l7 : Bool} {s3 s4 s11 s13 : Value} {a1 a3 e1 e3 : Option Addr} {c1 c3 k1 k3 b4 b5 : Nat}
theorem RevJ.call1 (h : RevJ ns' es' B w0 w false l3 l4 l5 l6 l7 s3 s4 s11 s13 a1 a3 e1 e3 c1 c3 k1 k3 b4 b5) (hb : Below w.heap.size w w') {a e : Option Addr} {c k : Nat} (hr : RowOf Value.string w'.heap.size (.slice a ns'.length c) ns' w') (he : EdgesOf w'.heap.size (.slice e es'.length k) es' w') :
    RevJ ns' es' B w0 w' true l3 l4 l5 l6 l7 s3 s4 (.agg #[.slice a ns'.length c, .slice e es'.length k]) s13 a a3 e e3 c c3 k k3 b4 b5 := by
  have h6 : l6 = false := by
    cases l6 with
    | false => rfl
    | true => exact absurd (h.o6 rfl).1 (by decide)
  subst h6
  refine ⟨h.bel.trans (hb.mono h.hB), Nat.le_trans h.hB hb.size, fun _ => ⟨rfl, hr, he⟩, fun hl => ?_, fun hl => ?_, fun hl => ?_, h.d45, fun hl => (by cases hl), h.o7⟩
  · obtain ⟨q1, q2, q3⟩ := h.m3 hl
    exact ⟨q1, (q2.below hb (Nat.le_refl _)).mono hb.size, (q3.below hb (Nat.le_refl _)).mono hb.size⟩
  · obtain ⟨q1, q2, q3⟩ := h.p4 hl
    exact ⟨q1, q2, (hb.block b4 (Array.getElem?_eq_some_iff.1 q3).1).trans q3⟩
  · obtain ⟨q1, q2, q3⟩ := h.p5 hl
    exact ⟨q1, q2, (hb.block b5 (Array.getElem?_eq_some_iff.1 q3).1).trans q3⟩
theorem RevJ.call3 (h : RevJ ns' es' B w0 w l1 false l4 l5 l6 l7 s3 s4 s11 s13 a1 a3 e1 e3 c1 c3 k1 k3 b4 b5) (hb : Below w.heap.size w w') {a e : Option Addr} {c k : Nat} (hr : RowOf Value.string w'.heap.size (.slice a ns'.length c) ns' w') (he : EdgesOf w'.heap.size (.slice e es'.length k) es' w') :
    RevJ ns' es' B w0 w' l1 true l4 l5 l6 l7 s3 s4 s11 (.agg #[.slice a ns'.length c, .slice e es'.length k]) a1 a e1 e c1 c k1 k b4 b5 := by
  have h6 : l7 = false := by
    cases l7 with
    | false => rfl
    | true => exact absurd (h.o7 rfl).1 (by decide)
  subst h6
  refine ⟨h.bel.trans (hb.mono h.hB), Nat.le_trans h.hB hb.size, fun hl => ?_, fun _ => ⟨rfl, hr, he⟩, fun hl => ?_, fun hl => ?_, h.d45, h.o6, fun hl => (by cases hl)⟩
  · obtain ⟨q1, q2, q3⟩ := h.m1 hl
    exact ⟨q1, (q2.below hb (Nat.le_refl _)).mono hb.size, (q3.below hb (Nat.le_refl _)).mono hb.size⟩
  · obtain ⟨q1, q2, q3⟩ := h.p4 hl
    exact ⟨q1, q2, (hb.block b4 (Array.getElem?_eq_some_iff.1 q3).1).trans q3⟩
  · obtain ⟨q1, q2, q3⟩ := h.p5 hl
    exact ⟨q1, q2, (hb.block b5 (Array.getElem?_eq_some_iff.1 q3).1).trans q3⟩
theorem RevJ.al4 (h : RevJ ns' es' B w0 w l1 l3 false l5 l6 l7 s3 s4 s11 s13 a1 a3 e1 e3 c1 c3 k1 k3 b4 b5) : RevJ ns' es' B w0 (w.alloc (.cells #[.slice none 0 0, .slice none 0 0] 25)) l1 l3 true l5 l6 l7 (.pointer (some ⟨w.heap.size, 0, none⟩)) s4 s11 s13 a1 a3 e1 e3 c1 c3 k1 k3 w.heap.size b5 := by
  have h6 : l6 = false := by
    cases l6 with
    | false => rfl
    | true => exact absurd (h.o6 rfl).2 (by decide)
  subst h6
  have hb := bel_alloc w (.cells #[.slice none 0 0, .slice none 0 0] 25)
  refine ⟨h.bel.trans (hb.mono h.hB), Nat.le_trans h.hB hb.size, fun hl => ?_, fun hl => ?_, fun _ => ⟨rfl, h.hB, World.alloc_heap_new w _⟩, fun hl => ?_, fun _ hl => ?_, fun hl => (by cases hl), h.o7⟩
  · obtain ⟨q1, q2, q3⟩ := h.m1 hl
    exact ⟨q1, (q2.below hb (Nat.le_refl _)).mono hb.size, (q3.below hb (Nat.le_refl _)).mono hb.size⟩
  · obtain ⟨q1, q2, q3⟩ := h.m3 hl
    exact ⟨q1, (q2.below hb (Nat.le_refl _)).mono hb.size, (q3.below hb (Nat.le_refl _)).mono hb.size⟩
  · obtain ⟨q1, q2, q3⟩ := h.p5 hl
    exact ⟨q1, q2, (hb.block b5 (Array.getElem?_eq_some_iff.1 q3).1).trans q3⟩
  · have := (Array.getElem?_eq_some_iff.1 (h.p5 hl).2.2).1
    omega
theorem RevJ.al5 (h : RevJ ns' es' B w0 w l1 l3 l4 false l6 l7 s3 s4 s11 s13 a1 a3 e1 e3 c1 c3 k1 k3 b4 b5) : RevJ ns' es' B w0 (w.alloc (.cells #[.slice none 0 0, .slice none 0 0] 25)) l1 l3 l4 true l6 l7 s3 (.pointer (some ⟨w.heap.size, 0, none⟩)) s11 s13 a1 a3 e1 e3 c1 c3 k1 k3 b4 w.heap.size := by
  have h6 : l7 = false := by
    cases l7 with
    | false => rfl
    | true => exact absurd (h.o7 rfl).2 (by decide)
  subst h6
  have hb := bel_alloc w (.cells #[.slice none 0 0, .slice none 0 0] 25)
  refine ⟨h.bel.trans (hb.mono h.hB), Nat.le_trans h.hB hb.size, fun hl => ?_, fun hl => ?_, fun hl => ?_, fun _ => ⟨rfl, h.hB, World.alloc_heap_new w _⟩, fun hl _ => ?_, h.o6, fun hl => (by cases hl)⟩
  · obtain ⟨q1, q2, q3⟩ := h.m1 hl
    exact ⟨q1, (q2.below hb (Nat.le_refl _)).mono hb.size, (q3.below hb (Nat.le_refl _)).mono hb.size⟩
  · obtain ⟨q1, q2, q3⟩ := h.m3 hl
    exact ⟨q1, (q2.below hb (Nat.le_refl _)).mono hb.size, (q3.below hb (Nat.le_refl _)).mono hb.size⟩
  · obtain ⟨q1, q2, q3⟩ := h.p4 hl
    exact ⟨q1, q2, (hb.block b4 (Array.getElem?_eq_some_iff.1 q3).1).trans q3⟩
  · have := (Array.getElem?_eq_some_iff.1 (h.p4 hl).2.2).1
    omega
theorem row_store {B b t : Nat} {x y x' y' : Value} {v : Value} {l : List ByteArray} (h : RowOf Value.string B v l w) (hb : w.heap[b]? = some (.cells #[x, y] t (0, 0))) (hx : ∀ s, x ≠ .string s) (hy : ∀ s, y ≠ .string s) :
    RowOf Value.string B v l ((w.setCell ⟨b, 0, none⟩ x').setCell ⟨b, 1, none⟩ y') := by
  rcases h with ⟨h1, h2⟩ | ⟨rb, ro, rc, h1, h2, h3⟩
  · exact .inl ⟨h1, h2⟩
  · refine .inr ⟨rb, ro, rc, h1, h2, fun i u hu => ?_⟩
    have h4 := h3 i u hu
    have hne : rb ≠ b := fun e => by
      rw [e, cell_of_row _ _ _ _ _ _ hb] at h4
      match ro + i, h4 with
      | 0, h4 => exact hx u (Option.some.inj h4)
      | 1, h4 => exact hy u (Option.some.inj h4)
      | j + 2, h4 => simp at h4
    rw [World.cell?_setCell_far _ _ _ _ (by exact Ne.symm hne), World.cell?_setCell_far _ _ _ _ (by exact Ne.symm hne)]
    exact h4
theorem edges_store {B b t : Nat} {x y x' y' : Value} {v : Value} {l : List (Int × Int)} (h : EdgesOf B v l w) (hb : w.heap[b]? = some (.cells #[x, y] t (0, 0))) (hx : ∀ s, x ≠ intC s) (hy : ∀ s, y ≠ intC s) :
    EdgesOf B v l ((w.setCell ⟨b, 0, none⟩ x').setCell ⟨b, 1, none⟩ y') := by
  obtain ⟨ao, cap, rfl, h⟩ := h
  refine ⟨ao, cap, rfl, fun i u hu => ?_⟩
  obtain ⟨rb, ro, h1, h2, h3, h4⟩ := h i u hu
  have hne : rb ≠ b := fun e => by
    rw [e, cell_of_row _ _ _ _ _ _ hb] at h3
    match ro + i * 2, h3 with
    | 0, h3 => exact hx u.1 (Option.some.inj h3)
    | 1, h3 => exact hy u.1 (Option.some.inj h3)
    | j + 2, h3 => simp at h3
  refine ⟨rb, ro, h1, h2, ?_, ?_⟩
  · rw [World.cell?_setCell_far _ _ _ _ (by exact Ne.symm hne), World.cell?_setCell_far _ _ _ _ (by exact Ne.symm hne)]; exact h3
  · rw [World.cell?_setCell_far _ _ _ _ (by exact Ne.symm hne), World.cell?_setCell_far _ _ _ _ (by exact Ne.symm hne)]; exact h4
theorem size_two (b : Nat) (x y : Value) : ((w.setCell ⟨b, 0, none⟩ x).setCell ⟨b, 1, none⟩ y).heap.size = w.heap.size := by rw [World.size_setCell, World.size_setCell]
theorem RevJ.st6 (h : RevJ ns' es' B w0 w true l3 true l5 false l7 s3 s4 s11 s13 a1 a3 e1 e3 c1 c3 k1 k3 b4 b5) : RevJ ns' es' B w0 ((w.setCell ⟨b4, 0, none⟩ (.slice a1 ns'.length c1)).setCell ⟨b4, 1, none⟩ (.slice e1 es'.length k1)) true l3 true l5 true l7 s3 s4 s11 s13 a1 a3 e1 e3 c1 c3 k1 k3 b4 b5 := by
  obtain ⟨q1, q2, q3⟩ := h.p4 rfl
  have hs := size_two (w := w) b4 (.slice a1 ns'.length c1) (.slice e1 es'.length k1)
  refine ⟨(h.bel.setCell (by exact q2) _).setCell (by exact q2) _, by rw [hs]; exact h.hB, fun hl => ?_, fun hl => ?_, fun _ => ⟨q1, q2, set_two q3⟩, fun hl => ?_, h.d45, fun _ => ⟨rfl, rfl⟩, h.o7⟩
  · obtain ⟨r1, r2, r3⟩ := h.m1 hl
    rw [hs]
    exact ⟨r1, row_store r2 q3 (fun s => by simp) (fun s => by simp), edges_store r3 q3 (fun s => by simp) (fun s => by simp)⟩
  · obtain ⟨r1, r2, r3⟩ := h.m3 hl
    rw [hs]
    exact ⟨r1, row_store r2 q3 (fun s => by simp) (fun s => by simp), edges_store r3 q3 (fun s => by simp) (fun s => by simp)⟩
  · obtain ⟨r1, r2, r3⟩ := h.p5 hl
    have hne := h.d45 rfl hl
    exact ⟨r1, r2, (heap_setCell_other _ _ _ _ (by exact hne.symm)).trans ((heap_setCell_other _ _ _ _ (by exact hne.symm)).trans r3)⟩
theorem RevJ.st7 (h : RevJ ns' es' B w0 w l1 true l4 true l6 false s3 s4 s11 s13 a1 a3 e1 e3 c1 c3 k1 k3 b4 b5) : RevJ ns' es' B w0 ((w.setCell ⟨b5, 0, none⟩ (.slice a3 ns'.length c3)).setCell ⟨b5, 1, none⟩ (.slice e3 es'.length k3)) l1 true l4 true l6 true s3 s4 s11 s13 a1 a3 e1 e3 c1 c3 k1 k3 b4 b5 := by
  obtain ⟨q1, q2, q3⟩ := h.p5 rfl
  have hs := size_two (w := w) b5 (.slice a3 ns'.length c3) (.slice e3 es'.length k3)
  refine ⟨(h.bel.setCell (by exact q2) _).setCell (by exact q2) _, by rw [hs]; exact h.hB, fun hl => ?_, fun hl => ?_, fun hl => ?_, fun _ => ⟨q1, q2, set_two q3⟩, h.d45, h.o6, fun _ => ⟨rfl, rfl⟩⟩
  · obtain ⟨r1, r2, r3⟩ := h.m1 hl
    rw [hs]
    exact ⟨r1, row_store r2 q3 (fun s => by simp) (fun s => by simp), edges_store r3 q3 (fun s => by simp) (fun s => by simp)⟩
  · obtain ⟨r1, r2, r3⟩ := h.m3 hl
    rw [hs]
    exact ⟨r1, row_store r2 q3 (fun s => by simp) (fun s => by simp), edges_store r3 q3 (fun s => by simp) (fun s => by simp)⟩
  · obtain ⟨r1, r2, r3⟩ := h.p4 hl
    have hne := h.d45 hl rfl
    exact ⟨r1, r2, (heap_setCell_other _ _ _ _ (by exact hne)).trans ((heap_setCell_other _ _ _ _ (by exact hne)).trans r3)⟩
end
end Go.Proofs.Ytlcgbkeggmaljaa
