/- Contract of the reference's groups: the least node of each node's component. -/
import Derived.Test.YtlcgbkeggmaljaaGRRev
import Derived.Test.YtlcgbkeggmaljaaPK
import Derived.Test.YtlcgbkeggmaljaaGReach1
namespace Go.Proofs.Ytlcgbkeggmaljaa
set_option linter.unusedVariables false
set_option linter.unusedSimpArgs false
open Go Go.RowKit

/-- the least node of a node's component. -/
def grpN (N : Nat) (es : List (Int × Int)) (i : Nat) : Nat := ((List.range' 0 N).find? fun k => clG N es k == clG N es i).getD i
/-- what a search from above has found. -/
def grpK (N : Nat) (es : List (Int × Int)) (i j : Nat) : Nat := ((List.range' j (N - j)).find? fun k => clG N es k == clG N es i).getD i
theorem grpK_zero (N : Nat) (es : List (Int × Int)) (i : Nat) : grpK N es i 0 = grpN N es i := rfl
theorem grpK_top (N : Nat) (es : List (Int × Int)) (i : Nat) : grpK N es i N = i := by unfold grpK; rw [Nat.sub_self]; rfl
theorem grpK_step {N : Nat} {es : List (Int × Int)} {i j : Nat} (h : j < N) : grpK N es i j = if (clG N es j == clG N es i) = true then j else grpK N es i (j + 1) := by
  unfold grpK
  rw [show N - j = (N - (j + 1)) + 1 by omega, List.range'_succ, List.find?_cons]
  cases clG N es j == clG N es i <;> rfl
theorem grpK_lt {N : Nat} {es : List (Int × Int)} {i : Nat} (hi : i < N) (j : Nat) : grpK N es i j < N := by
  unfold grpK
  cases e : (List.range' j (N - j)).find? (fun k => clG N es k == clG N es i) with
  | none => exact hi
  | some k =>
    have := List.mem_of_find?_eq_some e
    rw [List.mem_range'_1] at this
    show k < N
    omega
/-- flags that tell what a node reaches. -/
def FlagV (N : Nat) (es : List (Int × Int)) (i : Nat) (s : Value) (W : World) : Prop := ∃ g f, s = .slice (some ⟨g, 0, none⟩) N N ∧ Flags W g f ∧ MarkS N es [i] f
theorem FlagV.below {N : Nat} {es : List (Int × Int)} {i : Nat} {s : Value} {W W' : World} (h : FlagV N es i s W) (hb : Below W.heap.size W W') : FlagV N es i s W' := by
  obtain ⟨g, f, h1, h2, h3⟩ := h
  exact ⟨g, f, h1, (hb.block g (Array.getElem?_eq_some_iff.1 h2).1).trans h2, h3⟩
theorem one_row (W : World) (x : Nat) : RowOf intC (W.alloc (.cells #[.int .i64 (x : Int)] 3)).heap.size (.slice (some ⟨W.heap.size, 0, none⟩) 1 1) ([x].map Int.ofNat) (W.alloc (.cells #[.int .i64 (x : Int)] 3)) := .inr ⟨W.heap.size, 0, 1, rfl, by simp, fun i y hy => by
  match i, hy with
  | 0, hy =>
    cases hy
    exact cell_of_row _ _ 0 _ _ _ (World.alloc_heap_new W _)
  | i + 1, hy => simp at hy⟩
structure GrpJ (N : Nat) (es : List (Int × Int)) (i B : Nat) (w0 W : World) (l2 l3 l5 l7 l8 l9 l10 : Bool) (s5 s6 s19 s20 s22 s24 s25 : Value) : Prop where
  bel : Below B w0 W
  hB : B ≤ W.heap.size
  m2 : l2 = true → RowOf intC W.heap.size s19 ([i].map Int.ofNat) W
  m3 : l3 = true → FlagV N es i s20 W
  m5 : l5 = true → ∃ a c v', s22 = .agg #[.slice a N c, v'] ∧ EdgesOf W.heap.size v' (es.map swapE) W
  m7 : l7 = true → RowOf intC W.heap.size s24 ([i].map Int.ofNat) W
  m8 : l8 = true → FlagV N (es.map swapE) i s25 W
  m9 : l9 = true → l3 = true ∧ s5 = s20
  m10 : l10 = true → l8 = true ∧ s6 = s25
theorem GrpJ.keep {N : Nat} {es : List (Int × Int)} {i B : Nat} {w0 W W' : World} {l2 l3 l5 l7 l8 l9 l10 : Bool} {s5 s6 s19 s20 s22 s24 s25 : Value} (h : GrpJ N es i B w0 W l2 l3 l5 l7 l8 l9 l10 s5 s6 s19 s20 s22 s24 s25) (hb : Below W.heap.size W W') : GrpJ N es i B w0 W' l2 l3 l5 l7 l8 l9 l10 s5 s6 s19 s20 s22 s24 s25 :=
  ⟨h.bel.trans (hb.mono h.hB), Nat.le_trans h.hB hb.size, fun hl => ((h.m2 hl).below hb (Nat.le_refl _)).mono hb.size, fun hl => (h.m3 hl).below hb, fun hl => by
    obtain ⟨a, c, v', q1, q2⟩ := h.m5 hl
    exact ⟨a, c, v', q1, (q2.below hb (Nat.le_refl _)).mono hb.size⟩, fun hl => ((h.m7 hl).below hb (Nat.le_refl _)).mono hb.size, fun hl => (h.m8 hl).below hb, h.m9, h.m10⟩

set_option maxRecDepth 100000 in
set_option maxHeartbeats 8000000 in
theorem groups_any (a : Option Addr) (ns : List ByteArray) (N c : Nat) (ev : Value) (es : List (Int × Int)) (w : World) (hNN : N = ns.length) (hE : EdgesOf w.heap.size ev es w) (hR : RowOf Value.string w.heap.size (.slice a N c) ns w) (hval : validG N es = true) :
    Calls Try.prog 56 #[.agg #[.slice a N c, ev]] w fun e w' => ∃ v, e = .returned v ∧ w'.ownsRow w.heap.size 3 1 v N (((List.range N).map (grpN N es)).map natC) ∧ Below w.heap.size w w' := by
  obtain ⟨hNn, hNe⟩ := validG_n hval
  have hE0 := hE
  obtain ⟨ao, ec, rfl, _⟩ := hE
  have HE := Lib.hid hE0
  have HR := Lib.hid hR
  have HV := Lib.hid hval
  have HNN := Lib.hid hNN
  obtain ⟨j0, hj0', hy0, hy1, hy2⟩ := info_parts info_ints
  have HG0 : Hid (((w.alloc (.cells #[.slice a N c, .slice ao es.length ec] 25)).alloc (.cells #[] 3)).heap[w.heap.size]? = some (.cells #[.slice a N c, .slice ao es.length ec] 25 (0, 0))) := Lib.hid ((Below.heap_alloc _ _ _ (by simp)).trans (World.alloc_heap_new w _))
  have HB0 : Hid (Below w.heap.size w ((w.alloc (.cells #[.slice a N c, .slice ao es.length ec] 25)).alloc (.cells #[] 3))) := Lib.hid (((Below.refl _ _).alloc (Nat.le_refl _) _).alloc (by simp) _)
  have HO0 : Hid (((w.alloc (.cells #[.slice a N c, .slice ao es.length ec] 25)).alloc (.cells #[] 3)).ownsRow w.heap.size 3 1 (.slice (some ⟨w.heap.size + 1, 0, none⟩) 0 0) 0 []) := Lib.hid (by
    have := own_made w.heap.size 3 0 [] (w.alloc (.cells #[.slice a N c, .slice ao es.length ec] 25)) (by simp) (by decide) rfl
    rwa [World.size_alloc] at this)
  clear hE0 hR hval hNN
  go_enter Try.func56, Try.ntmps56
  go_wp2_with fail
  go_loopw [3, 4] (fun o q wr => ∃ i : Nat, i ≤ N ∧ q = .int .i64 i ∧ Hid (wr.ownsRow w.heap.size 3 1 o i (((List.range i).map (grpN N es)).map natC)) ∧ Hid (wr.heap[w.heap.size]? = some (.cells #[.slice a N c, .slice ao es.length ec] 25 (0, 0))) ∧ Hid (Below w.heap.size w wr)) (fun _ q _ => N - (intOf q).toNat)
  case atStart => exact ⟨0, by omega, rfl, HO0, HG0, HB0⟩
  case round =>
    clear HO0 HG0 HB0
    obtain ⟨i, hi, rfl, HO, HG, HB⟩ := hrel
    obtain ⟨ba, bc, rfl⟩ := own_any HO.out
    have hsr := HB.out.size
    have hgl : w.heap.size < wr.heap.size := (Array.getElem?_eq_some_iff.1 HG.out).1
    have hg0 : wr.cell? ⟨w.heap.size, 0, none⟩ = some (.slice a N c) := cell_of_row _ _ 0 _ _ _ HG.out
    have hg1 : wr.cell? ⟨w.heap.size, 1, none⟩ = some (.slice ao es.length ec) := cell_of_row _ _ 1 _ _ _ HG.out
    by_cases hlt : i < N
    case neg =>
      have hii : i = N := by omega
      subst hii
      go_wp2_with fail
      go_ret
      exact ⟨_, rfl, HO.out, HB.out⟩
    case pos =>
      have hi0 : (0 : Int) ≤ (i : Int) := by omega
      have hi1 : (i : Int) < (N : Int) := by omega
      go_wp2_with fail
      refine region_plainP (S := HeldC ⟨w.heap.size, 0, none⟩ ⟨w.heap.size, 1, none⟩ (.slice a N c) (.slice ao es.length ec)) (by kernel_rfl) ?_
      have hSd : HeldC ⟨w.heap.size, 0, none⟩ ⟨w.heap.size, 1, none⟩ (.slice a N c) (.slice ao es.length ec) wr.drew := ⟨hg0, hg1⟩
      (refine wpAnyH_take (i := 0) (v := ?_) rfl (by kernel_rfl) (by kernel_rfl) (by kernel_rfl) (fun _ _ _ h => h) (Or.inl ⟨by rfl, ?_⟩) (by assumption) ?_; rotate_left; (· (intro w hSw; obtain ⟨c0, c1⟩ := hSw; go_simp; try with_reducible rfl)); (try simp only [List.getElem_toArray, List.getElem_cons_zero, List.getElem_cons_succ, Act.put, List.setIfInBounds_toArray, List.set_cons_zero, List.set_cons_succ]))
      (refine wpAnyH_take (i := 1) (v := ?_) rfl (by kernel_rfl) (by kernel_rfl) (by kernel_rfl) (fun _ _ _ h => h) (Or.inl ⟨by rfl, ?_⟩) (by assumption) ?_; rotate_left; (· (intro w hSw; obtain ⟨c0, c1⟩ := hSw; go_simp; try with_reducible rfl)); (try simp only [List.getElem_toArray, List.getElem_cons_zero, List.getElem_cons_succ, Act.put, List.setIfInBounds_toArray, List.set_cons_zero, List.set_cons_succ]))
      (refine wpAnyH_take (i := 4) (v := ?_) rfl (by kernel_rfl) (by kernel_rfl) (by kernel_rfl) (fun _ _ _ h => h) (Or.inl ⟨by rfl, ?_⟩) (by assumption) ?_; rotate_left; (· (intro w hSw; obtain ⟨c0, c1⟩ := hSw; go_simp; try with_reducible rfl)); (try simp only [List.getElem_toArray, List.getElem_cons_zero, List.getElem_cons_succ, Act.put, List.setIfInBounds_toArray, List.set_cons_zero, List.set_cons_succ]))
      (refine wpAnyH_take (i := 6) (v := ?_) rfl (by kernel_rfl) (by kernel_rfl) (by kernel_rfl) (fun _ _ _ h => h) (Or.inl ⟨by rfl, ?_⟩) (by assumption) ?_; rotate_left; (· (intro w hSw; obtain ⟨c0, c1⟩ := hSw; go_simp; try with_reducible rfl)); (try simp only [List.getElem_toArray, List.getElem_cons_zero, List.getElem_cons_succ, Act.put, List.setIfInBounds_toArray, List.set_cons_zero, List.set_cons_succ]))
      have HSW : Hid (∀ W' : World, Below wr.heap.size wr W' → HeldC ⟨w.heap.size, 0, none⟩ ⟨w.heap.size, 1, none⟩ (.slice a N c) (.slice ao es.length ec) W') := Lib.hid fun W' h => ⟨cell_of_row _ _ 0 _ _ _ ((h.block _ hgl).trans HG.out), cell_of_row _ _ 1 _ _ _ ((h.block _ hgl).trans HG.out)⟩
      have HEV : Hid (∀ V : World, Below wr.heap.size wr V → EdgesOf V.heap.size (.slice ao es.length ec) es V) := Lib.hid fun V h => (HE.out.below (HB.out.trans (h.mono hsr)) (Nat.le_refl _)).mono (by have := h.size; omega)
      have HRV : Hid (∀ V : World, Below wr.heap.size wr V → RowOf Value.string V.heap.size (.slice a ns.length c) ns V) := Lib.hid fun V h => by rw [← HNN.out]; exact (HR.out.below (HB.out.trans (h.mono hsr)) (Nat.le_refl _)).mono (by have := h.size; omega)
      refine wpAnyH_inv (fun listed a' W => ∃ (l2 l3 l5 l7 l8 l9 l10 : Bool) (s5 s6 s19 s20 s22 s24 s25 : Value), listed = #[true, true, l2, l3, true, l5, true, l7, l8, l9, l10] ∧ a' = { tmps := #[.agg #[.slice a N c, .slice ao es.length ec], .pointer (some ⟨w.heap.size, 0, none⟩), .slice none 0 0, .slice ba i bc, .int .i64 (i : Int), s5, s6, u7, u8, .slice (some ⟨w.heap.size + 1, 0, none⟩) 0 0, .int .i64 (i : Int), .pointer (some ⟨w.heap.size, 0, none⟩), .slice a N c, .int .i64 (N : Int), .bool true, u15, u16, .agg #[.slice a N c, .slice ao es.length ec], .int .i64 (i : Int), s19, s20, .agg #[.slice a N c, .slice ao es.length ec], s22, .int .i64 (i : Int), s24, s25, u26, u27, u28, u29, u30, u31, u32, u33, u34, u35, u36, u37, u38, u39, u40, u41, u42, u43, u44, u45, u46, u47, u48, u49, undef], defers := [] } ∧ GrpJ N es i wr.heap.size wr W l2 l3 l5 l7 l8 l9 l10 s5 s6 s19 s20 s22 s24 s25) ?step ?fin _ _ _ _ (by decide) ?start
      case start => exact ⟨false, false, false, false, false, false, false, _, _, _, _, _, _, _, rfl, rfl, ⟨(Below.refl _ _).drew, Nat.le_refl _, fun h => (by cases h), fun h => (by cases h), fun h => (by cases h), fun h => (by cases h), fun h => (by cases h), fun h => (by cases h), fun h => (by cases h)⟩⟩
      case step =>
        rintro listed a' W x ⟨l2, l3, l5, l7, l8, l9, l10, s5, s6, s19, s20, s22, s24, s25, rfl, rfl, hJ⟩ hx
        obtain ⟨h1, h2, h3⟩ := ready_spec hx
        have hx11 : x < 11 := h1
        have hx : x = 0 ∨ x = 1 ∨ x = 2 ∨ x = 3 ∨ x = 4 ∨ x = 5 ∨ x = 6 ∨ x = 7 ∨ x = 8 ∨ x = 9 ∨ x = 10 := by omega
        clear h1 hx11
        rcases hx with rfl | rfl | rfl | rfl | rfl | rfl | rfl | rfl | rfl | rfl | rfl
        · cases h2
        · cases h2
        · obtain rfl : l2 = false := h2
          refine wpOp_hid rfl (fun K hK => ?_)
          have HJ := Lib.hid hJ
          clear h3 hJ
          go_simp
          have k := HJ.out.keep (bel_alloc W (.cells #[.int .i64 (i : Int)] 3))
          exact hK.out _ _ ⟨HSW.out _ k.bel, true, l3, l5, l7, l8, l9, l10, _, _, _, _, _, _, _, rfl, rfl, ⟨k.bel, k.hB, fun _ => one_row W i, k.m3, k.m5, k.m7, k.m8, k.m9, k.m10⟩⟩
        · obtain rfl : l3 = false := h2
          obtain rfl : l2 = true := by
            cases l2 with
            | true => rfl
            | false => exact Bool.noConfusion (h3.symm.trans (by kernel_rfl : _ = false))
          refine wpOp_hid rfl (fun K hK => ?_)
          have HMK := Lib.hid (marks_any a N c (.slice ao es.length ec) s19 es [i] W HV.out (HEV.out W hJ.bel) (by simp) (hJ.m2 rfl) (by simpa using hlt))
          have HJ := Lib.hid hJ
          clear h3 hJ
          go_simp
          refine HMK.out.mono ?_
          rintro e W' ⟨g, f, rfl, _, hF, hM, hb⟩
          have k := HJ.out.keep hb
          exact hK.out _ _ ⟨HSW.out _ k.bel, true, true, l5, l7, l8, l9, l10, _, _, _, _, _, _, _, rfl, rfl, ⟨k.bel, k.hB, k.m2, fun _ => ⟨g, f, rfl, hF, hM⟩, k.m5, k.m7, k.m8, fun hl => absurd (k.m9 hl).1 (by decide), k.m10⟩⟩
        · cases h2
        · obtain rfl : l5 = false := h2
          refine wpOp_hid rfl (fun K hK => ?_)
          have hrv := rReverse_yes a c (.slice ao es.length ec) ns es W (HEV.out W hJ.bel) (HRV.out W hJ.bel) (by rw [← HNN.out]; exact HV.out)
          rw [← HNN.out] at hrv
          have HRR := Lib.hid hrv
          have HJ := Lib.hid hJ
          clear h3 hJ hrv
          go_simp
          refine HRR.out.mono ?_
          rintro e W' ⟨ax, cx, vx, rfl, _, hex, hb⟩
          have k := HJ.out.keep hb
          exact hK.out _ _ ⟨HSW.out _ k.bel, l2, l3, true, l7, l8, l9, l10, _, _, _, _, _, _, _, rfl, rfl, ⟨k.bel, k.hB, k.m2, k.m3, fun _ => ⟨ax, cx, vx, rfl, hex⟩, k.m7, k.m8, k.m9, k.m10⟩⟩
        · cases h2
        · obtain rfl : l7 = false := h2
          refine wpOp_hid rfl (fun K hK => ?_)
          have HJ := Lib.hid hJ
          clear h3 hJ
          go_simp
          have k := HJ.out.keep (bel_alloc W (.cells #[.int .i64 (i : Int)] 3))
          exact hK.out _ _ ⟨HSW.out _ k.bel, l2, l3, l5, true, l8, l9, l10, _, _, _, _, _, _, _, rfl, rfl, ⟨k.bel, k.hB, k.m2, k.m3, k.m5, fun _ => one_row W i, k.m8, k.m9, k.m10⟩⟩
        · obtain rfl : l8 = false := h2
          obtain ⟨rfl, rfl⟩ : l5 = true ∧ l7 = true := by
            cases l5 <;> cases l7 <;> first | exact ⟨rfl, rfl⟩ | exact Bool.noConfusion (h3.symm.trans (by kernel_rfl : _ = false))
          obtain ⟨ax, cx, vx, hs22, hex⟩ := hJ.m5 rfl
          subst hs22
          refine wpOp_hid rfl (fun K hK => ?_)
          have HMK := Lib.hid (marks_any ax N cx vx s24 (es.map swapE) [i] W (validG_swap HV.out) hex (by simp) (hJ.m7 rfl) (by simpa using hlt))
          have HJ := Lib.hid hJ
          clear h3 hJ hex
          go_simp
          refine HMK.out.mono ?_
          rintro e W' ⟨g, f, rfl, _, hF, hM, hb⟩
          have k := HJ.out.keep hb
          exact hK.out _ _ ⟨HSW.out _ k.bel, l2, l3, true, true, true, l9, l10, _, _, _, _, _, _, _, rfl, rfl, ⟨k.bel, k.hB, k.m2, k.m3, k.m5, k.m7, fun _ => ⟨g, f, rfl, hF, hM⟩, k.m9, fun hl => absurd (k.m10 hl).1 (by decide)⟩⟩
        · obtain rfl : l9 = false := h2
          obtain ⟨rfl, rfl, rfl⟩ : l2 = true ∧ l3 = true ∧ l8 = true := by
            cases l2 <;> cases l3 <;> cases l8 <;> first | exact ⟨rfl, rfl, rfl⟩ | exact Bool.noConfusion (h3.symm.trans (by kernel_rfl : _ = false))
          refine wpOp_hid rfl (fun K hK => ?_)
          have k := hJ
          clear h3 hJ
          go_simp
          exact hK.out _ _ ⟨HSW.out _ k.bel, true, true, l5, l7, true, true, l10, _, _, _, _, _, _, _, rfl, rfl, ⟨k.bel, k.hB, k.m2, k.m3, k.m5, k.m7, k.m8, fun _ => ⟨rfl, rfl⟩, k.m10⟩⟩
        · obtain rfl : l10 = false := h2
          obtain ⟨rfl, rfl, rfl⟩ : l3 = true ∧ l8 = true ∧ l9 = true := by
            cases l3 <;> cases l8 <;> cases l9 <;> cases l2 <;> cases l5 <;> cases l7 <;> first | exact ⟨rfl, rfl, rfl⟩ | exact Bool.noConfusion (h3.symm.trans (by kernel_rfl : _ = false))
          refine wpOp_hid rfl (fun K hK => ?_)
          have k := hJ
          clear h3 hJ
          go_simp
          exact hK.out _ _ ⟨HSW.out _ k.bel, l2, true, l5, l7, true, true, true, _, _, _, _, _, _, _, rfl, rfl, ⟨k.bel, k.hB, k.m2, k.m3, k.m5, k.m7, k.m8, k.m9, fun _ => ⟨rfl, rfl⟩⟩⟩
      case fin =>
        rintro listed a' W ⟨l2, l3, l5, l7, l8, l9, l10, s5, s6, s19, s20, s22, s24, s25, rfl, rfl, hJ⟩ hr
        have q2 := ready_nil hr 2 (by kernel_rfl)
        obtain rfl : l2 = true := q2
        have q7 := ready_nil hr 7 (by kernel_rfl)
        obtain rfl : l7 = true := q7
        have q3 := ready_nil hr 3 (by kernel_rfl)
        obtain rfl : l3 = true := q3
        have q5 := ready_nil hr 5 (by kernel_rfl)
        obtain rfl : l5 = true := q5
        have q8 := ready_nil hr 8 (by kernel_rfl)
        obtain rfl : l8 = true := q8
        have q9 := ready_nil hr 9 (by kernel_rfl)
        obtain rfl : l9 = true := q9
        have q10 := ready_nil hr 10 (by kernel_rfl)
        obtain rfl : l10 = true := q10
        obtain ⟨_, e5⟩ := hJ.m9 rfl
        obtain ⟨_, e6⟩ := hJ.m10 rfl
        obtain ⟨g3, f3, e20, hF3, hM3⟩ := hJ.m3 rfl
        obtain ⟨g8, f8, e25, hF8, hM8⟩ := hJ.m8 rfl
        subst e5
        subst e6
        subst e20
        subst e25
        have hbW := hJ.bel
        have hsW := hJ.hB
        have HBW := Lib.hid (HB.out.trans (hbW.mono hsr))
        have HOW : Hid (W.ownsRow w.heap.size 3 1 (.slice ba i bc) i (((List.range i).map (grpN N es)).map natC)) := Lib.hid (own_far HO.out (fun j hj => hbW.block j (HO.out.lt j hj).2))
        have HGW := Lib.hid ((hbW.block _ hgl).trans HG.out)
        have HF3 := Lib.hid hF3
        have HF8 := Lib.hid hF8
        have hf3l := hM3.1
        have hf8l := hM8.1
        have HCL : Hid (∀ k, k < N → (clG N es k == clG N es i) = (bD f3 k && bD f8 k)) := Lib.hid (fun k hk => by
          rw [Bool.eq_iff_iff, Bool.and_eq_true, beq_iff_eq, hM3.2, hM8.2, clG_eq hk hlt]
          constructor
          · rintro ⟨h1, h2⟩
            exact ⟨⟨hk, i, by simp, h2⟩, hk, i, by simp, rch_swap h1⟩
          · rintro ⟨⟨_, x, hx, h1⟩, _, y, hy, h2⟩
            have hx := List.mem_singleton.1 hx
            have hy := List.mem_singleton.1 hy
            subst hx
            subst hy
            have := rch_swap h2
            rw [swap_swap] at this
            exact ⟨this, h1⟩)
        have hgN : W.cell? ⟨w.heap.size, 0, none⟩ = some (.slice a N c) := cell_of_row _ _ 0 _ _ _ HGW.out
        have hwN : IntKind.i64.wrap ((N : Int) - 1) = (N : Int) - 1 := IntWalk.i64_in _ (by omega)
        clear hJ hr hF3 hF8 hM3 hM8 hbW hg0 hg1 HO HG HB
        refine NoPanic.normal ?_
        go_wp2_with fail
        go_loopw [7, 8] (fun s q wr => ∃ j : Nat, j ≤ N ∧ q = .int .i64 ((j : Int) - 1) ∧ s = .int .i64 (grpK N es i j : Int) ∧ wr = W) (fun _ q _ => (intOf q + 1).toNat)
        case atStart => exact ⟨N, Nat.le_refl _, rfl, by rw [grpK_top], rfl⟩
        case round =>
          obtain ⟨j, hj, hq, rfl, rfl⟩ := hrel
          have hgk := grpK_lt (es := es) hlt j
          cases j with
          | zero =>
            rw [show ((0 : Nat) : Int) - 1 = -1 from by decide] at hq
            subst hq
            have HOA : Hid (((List.range (i + 1)).map (grpN N es)).map natC = ((List.range i).map (grpN N es)).map natC ++ [natC (grpN N es i)]) := Lib.hid (by rw [List.range_succ, List.map_append, List.map_append]; rfl)
            rw [grpK_zero]
            go_wp2_with (at_builtin; refine wpList_append_own _ rfl _ _ 26 rfl w.heap.size 3 j0 (.int .i64 0) 1 8 Try.underlying26 hj0' hy0 hy1 hy2 rfl (by decide) _ i _ (by rfl) (HOW.out.alloc _) ⟨wr.heap.size, 0, none⟩ 1 1 [natC (grpN N es i)] (by rfl) (by rfl) (World.news_of_block (cs := #[natC (grpN N es i)]) (t := 3) (fr := (0, 0)) (heap_alloc_new wr _)) (by simp [Value.oneCell']) (by unfold maxLen; omega) (by omega) (by simp; have := HBW.out.size; omega) ?_; intro v' w5 hown' hgrow _)
            go_roundw
            case rel =>
              refine ⟨i + 1, by omega, by go_num, Lib.hid (by rw [HOA.out]; exact hown'), Lib.hid ?_, Lib.hid ((HBW.out.alloc (by have := HBW.out.size; omega) _).grown hgrow (by simp; have := HBW.out.size; omega) (fun b hb => (HOW.out.lt b hb).1))⟩
              refine (hgrow.block _ (by rw [World.size_alloc]; have := HBW.out.size; omega) (blk_ne HGW.out HOW.out (by decide))).trans ((Below.heap_alloc _ _ _ (by omega)).trans HGW.out)
            case measure => simp [intOf]; omega
          | succ k =>
            rw [show ((k + 1 : Nat) : Int) - 1 = (k : Int) from by omega] at hq
            subst hq
            have hk0 : (0 : Int) ≤ (k : Int) := by omega
            have hk1 : (k : Int) < (N : Int) := by omega
            have hwk : IntKind.i64.wrap ((k : Int) - 1) = (k : Int) - 1 := IntWalk.i64_in _ (by omega)
            have hbd : ∀ f : List Bool, f.length = N → f[k]? = some (bD f k) := fun f hf => by
              unfold bD
              rw [List.getD_eq_getElem?_getD, List.getElem?_eq_getElem (by omega)]
              rfl
            have hc3 := HF3.out.cell k _ (hbd f3 hf3l)
            have hc8 := HF8.out.cell k _ (hbd f8 hf8l)
            have hst := grpK_step (N := N) (es := es) (i := i) (j := k) (by omega)
            rw [HCL.out k (by omega)] at hst
            have HST := Lib.hid hst
            clear hst
            generalize bD f3 k = y3 at *
            generalize bD f8 k = y8 at *
            cases y3 <;> cases y8
            all_goals
              go_wp2_with fail
              go_roundw
              case rel => exact ⟨k, by omega, rfl, by rw [HST.out]; rfl, trivial⟩
              case measure => (show ((k : Int) - 1 + 1).toNat < ((k : Int) + 1).toNat; omega)
end Go.Proofs.Ytlcgbkeggmaljaa
