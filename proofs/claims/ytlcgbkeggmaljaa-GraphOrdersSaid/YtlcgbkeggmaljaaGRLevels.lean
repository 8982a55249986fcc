/- Contract of the reference's Levels. -/
import Derived.Test.YtlcgbkeggmaljaaGRComps
import Derived.Test.YtlcgbkeggmaljaaGPlainRLev
namespace Go.Proofs.Ytlcgbkeggmaljaa
set_option linter.unusedVariables false
set_option linter.unusedSimpArgs false
open Go Go.RowKit

set_option maxRecDepth 100000 in
set_option maxHeartbeats 2000000 in
theorem rComponents_no (a : Option Addr) (N c : Nat) (ev : Value) (es : List (Int × Int)) (w : World) (hN : N ≤ 1000000000) (hes : es.length ≤ 1000000000) (hE : EdgesOf w.heap.size ev es w) (hval : validG N es = false) :
    Calls Try.prog 29 #[.agg #[.slice a N c, ev]] w fun e w' => e = .returned (.slice none 0 0) ∧ Below w.heap.size w w' := by
  have hb1 : Below w.heap.size w (w.alloc (.cells #[.slice a N c, ev] 25)) := bel_alloc _ _
  have hv := rValid_any a N c ev es _ (by omega) (by omega) ((hE.below hb1 (Nat.le_refl _)).mono hb1.size)
  rw [hval] at hv
  obtain ⟨ao, ec, rfl, hE⟩ := hE
  have HV := Lib.hid hv
  have HB1 := Lib.hid hb1
  clear hv hb1 hE hval
  go_enter Try.func29, Try.ntmps29
  go_wp2_with fail
  refine HV.out.mono ?_
  rintro e w1 ⟨rfl, hb⟩
  go_wp2_with fail
  go_ret
  exact ⟨rfl, HB1.out.trans (hb.mono (by simp))⟩

set_option maxRecDepth 100000 in
set_option maxHeartbeats 2000000 in
theorem rLevels_no (a : Option Addr) (N c : Nat) (ev : Value) (es : List (Int × Int)) (w : World) (hN : N ≤ 1000000000) (hes : es.length ≤ 1000000000) (hE : EdgesOf w.heap.size ev es w) (hval : validG N es = false) :
    Calls Try.prog 31 #[.agg #[.slice a N c, ev]] w fun e w' => e = .returned (.slice none 0 0) ∧ Below w.heap.size w w' := by
  have hb1 : Below w.heap.size w (w.alloc (.cells #[.slice a N c, ev] 25)) := bel_alloc _ _
  have hv := rValid_any a N c ev es _ (by omega) (by omega) ((hE.below hb1 (Nat.le_refl _)).mono hb1.size)
  rw [hval] at hv
  obtain ⟨ao, ec, rfl, hE⟩ := hE
  have HV := Lib.hid hv
  have HB1 := Lib.hid hb1
  clear hv hb1 hE hval
  go_enter Try.func31, Try.ntmps31
  go_wp2_with fail
  refine HV.out.mono ?_
  rintro e w1 ⟨rfl, hb⟩
  go_wp2_with fail
  go_ret
  exact ⟨rfl, HB1.out.trans (hb.mono (by simp))⟩

theorem max_cast (a b : Nat) : max (a : Int) ((b : Int) + 1) = ((max a (b + 1) : Nat) : Int) := by omega
structure LevJ (N : Nat) (es : List (Int × Int)) (B : Nat) (w0 W : World) (l1 l3 l4 l5 : Bool) (s3 s4 s20 s22 : Value) : Prop where
  bel : Below B w0 W
  hB : B ≤ W.heap.size
  m1 : l1 = true → RowOf natC W.heap.size s20 ((List.range N).map (grpN N es)) W
  m3 : l3 = true → RowsOf W.heap.size s22 (compsG N es) W
  m4 : l4 = true → l1 = true ∧ s3 = s20
  m5 : l5 = true → l3 = true ∧ s4 = s22
theorem LevJ.keep {N : Nat} {es : List (Int × Int)} {B : Nat} {w0 W W' : World} {l1 l3 l4 l5 : Bool} {s3 s4 s20 s22 : Value} (h : LevJ N es B w0 W l1 l3 l4 l5 s3 s4 s20 s22) (hb : Below W.heap.size W W') : LevJ N es B w0 W' l1 l3 l4 l5 s3 s4 s20 s22 :=
  ⟨h.bel.trans (hb.mono h.hB), Nat.le_trans h.hB hb.size, fun hl => ((h.m1 hl).below hb (Nat.le_refl _)).mono hb.size, fun hl => ((h.m3 hl).below hb (Nat.le_refl _)).mono hb.size, h.m4, h.m5⟩

set_option maxRecDepth 100000 in
set_option maxHeartbeats 8000000 in
theorem rLevels_yes (a : Option Addr) (ns : List ByteArray) (N c : Nat) (ev : Value) (es : List (Int × Int)) (w : World) (hNN : N = ns.length) (hE : EdgesOf w.heap.size ev es w) (hR : RowOf Value.string w.heap.size (.slice a N c) ns w) (hval : validG N es = true) :
    Calls Try.prog 31 #[.agg #[.slice a N c, ev]] w fun e w' => ∃ v, e = .returned v ∧ RowsOf w'.heap.size v (levelsG N es) w' ∧ Below w.heap.size w w' := by
  obtain ⟨hNn, hNe⟩ := validG_n hval
  have hb1 : Below w.heap.size w (w.alloc (.cells #[.slice a N c, ev] 25)) := bel_alloc _ _
  have hv := rValid_any a N c ev es _ (by omega) (by omega) ((hE.below hb1 (Nat.le_refl _)).mono hb1.size)
  rw [hval] at hv
  have hE0 := hE
  obtain ⟨ao, ec, rfl, hE2⟩ := hE
  have HGOLD := Lib.hid (World.alloc_heap_new w (.cells #[.slice a N c, .slice ao es.length ec] 25))
  have HVC := Lib.hid hv
  have HV := Lib.hid hval
  have HB1 := Lib.hid hb1
  have HE := Lib.hid hE2
  have HE0 := Lib.hid hE0
  have HR := Lib.hid hR
  have HNN := Lib.hid hNN
  obtain ⟨j0, hj0', hy0, hy1, hy2⟩ := info_parts info_ints
  obtain ⟨i1, hi1', hz0, hz1, hz2⟩ := info_parts info_rows
  obtain ⟨lv, hlv⟩ := levels_ok N es
  have HLV := Lib.hid hlv
  clear hv hb1 hE2 hE0 hR hval hNN hlv
  go_enter Try.func31, Try.ntmps31
  go_wp2_with fail
  refine HVC.out.mono ?_
  rintro e w1 ⟨rfl, hb⟩
  have hs1 := hb.size
  simp only [World.size_alloc] at hs1
  have HG1 := Lib.hid ((hb.block w.heap.size (by simp)).trans HGOLD.out)
  have HW1 := Lib.hid (HB1.out.trans (hb.mono (by simp)))
  have hg0 : w1.cell? ⟨w.heap.size, 0, none⟩ = some (.slice a N c) := cell_of_row _ _ 0 _ _ _ HG1.out
  have hg1 : w1.cell? ⟨w.heap.size, 1, none⟩ = some (.slice ao es.length ec) := cell_of_row _ _ 1 _ _ _ HG1.out
  have hgl : w.heap.size < w1.heap.size := by omega
  clear hb HVC HB1 HGOLD
  go_wp2_with fail
  refine region_plainP (S := HeldC ⟨w.heap.size, 0, none⟩ ⟨w.heap.size, 1, none⟩ (.slice a N c) (.slice ao es.length ec)) (by kernel_rfl) ?_
  have hSd : HeldC ⟨w.heap.size, 0, none⟩ ⟨w.heap.size, 1, none⟩ (.slice a N c) (.slice ao es.length ec) w1.drew := ⟨hg0, hg1⟩
  (refine wpAnyH_take (i := 0) (v := ?_) rfl (by kernel_rfl) (by kernel_rfl) (by kernel_rfl) (fun _ _ _ h => h) (Or.inl ⟨by rfl, ?_⟩) (by assumption) ?_; rotate_left; (· (intro w hSw; obtain ⟨c0, c1⟩ := hSw; go_simp; try with_reducible rfl)); (try simp only [List.getElem_toArray, List.getElem_cons_zero, List.getElem_cons_succ, Act.put, List.setIfInBounds_toArray, List.set_cons_zero, List.set_cons_succ]))
  (refine wpAnyH_take (i := 2) (v := ?_) rfl (by kernel_rfl) (by kernel_rfl) (by kernel_rfl) (fun _ _ _ h => h) (Or.inl ⟨by rfl, ?_⟩) (by assumption) ?_; rotate_left; (· (intro w hSw; obtain ⟨c0, c1⟩ := hSw; go_simp; try with_reducible rfl)); (try simp only [List.getElem_toArray, List.getElem_cons_zero, List.getElem_cons_succ, Act.put, List.setIfInBounds_toArray, List.set_cons_zero, List.set_cons_succ]))
  have HSW : Hid (∀ W' : World, Below w1.heap.size w1 W' → HeldC ⟨w.heap.size, 0, none⟩ ⟨w.heap.size, 1, none⟩ (.slice a N c) (.slice ao es.length ec) W') := Lib.hid fun W' h => ⟨cell_of_row _ _ 0 _ _ _ ((h.block _ hgl).trans HG1.out), cell_of_row _ _ 1 _ _ _ ((h.block _ hgl).trans HG1.out)⟩
  have HEV : Hid (∀ V : World, Below w1.heap.size w1 V → EdgesOf V.heap.size (.slice ao es.length ec) es V) := Lib.hid fun V h => (HE0.out.below (HW1.out.trans (h.mono (by omega))) (Nat.le_refl _)).mono (by have := h.size; omega)
  have HRV : Hid (∀ V : World, Below w1.heap.size w1 V → RowOf Value.string V.heap.size (.slice a N c) ns V) := Lib.hid fun V h => (HR.out.below (HW1.out.trans (h.mono (by omega))) (Nat.le_refl _)).mono (by have := h.size; omega)
  refine wpAnyH_inv (fun listed a' W => ∃ (l1 l3 l4 l5 : Bool) (s3 s4 s20 s22 : Value), listed = #[true, l1, true, l3, l4, l5] ∧ a' = { tmps := #[.agg #[.slice a N c, .slice ao es.length ec], .pointer (some ⟨w.heap.size, 0, none⟩), .slice none 0 0, s3, s4, undef, undef, undef, undef, undef, undef, undef, undef, undef, undef, undef, .agg #[.slice a N c, .slice ao es.length ec], .bool true, .bool false, .agg #[.slice a N c, .slice ao es.length ec], s20, .agg #[.slice a N c, .slice ao es.length ec], s22, undef, undef, undef, undef, undef, undef, undef, undef, undef, undef, undef, undef, undef, undef, undef, undef, undef, undef, undef, undef, undef, undef, undef, undef, undef, undef, undef, undef, undef, undef, undef, undef, undef, undef, undef, undef, undef, undef, undef, undef, undef, undef, undef, undef, undef, undef, undef, undef, undef, undef, undef, undef, undef, undef, undef, undef, undef, undef, undef, undef, undef, undef, undef, undef, undef, undef, undef, undef, undef, undef, undef, undef, undef, undef, undef, undef, undef, undef, undef, undef, undef, undef, undef, undef, undef, undef, undef, undef, undef, undef, undef, undef, undef, undef, undef, undef, undef, undef, undef, undef, undef, undef, undef, undef, undef, undef], defers := [] } ∧ LevJ N es w1.heap.size w1 W l1 l3 l4 l5 s3 s4 s20 s22) ?step ?fin _ _ _ _ (by decide) ?start
  case start => exact ⟨false, false, false, false, _, _, _, _, rfl, rfl, ⟨(Below.refl _ _).drew, Nat.le_refl _, fun h => (by cases h), fun h => (by cases h), fun h => (by cases h), fun h => (by cases h)⟩⟩
  case step =>
    rintro listed a' W x ⟨l1, l3, l4, l5, s3, s4, s20, s22, rfl, rfl, hJ⟩ hx
    obtain ⟨h1, h2, h3⟩ := ready_spec hx
    have hx6 : x < 6 := h1
    have hx : x = 0 ∨ x = 1 ∨ x = 2 ∨ x = 3 ∨ x = 4 ∨ x = 5 := by omega
    clear h1 hx6
    rcases hx with rfl | rfl | rfl | rfl | rfl | rfl
    · cases h2
    · obtain rfl : l1 = false := h2
      refine wpOp_hid rfl (fun K hK => ?_)
      have HCON := Lib.hid (groups_any a ns N c (.slice ao es.length ec) es W HNN.out (HEV.out W hJ.bel) (HRV.out W hJ.bel) HV.out)
      have HJ := Lib.hid hJ
      clear h3 hJ
      go_simp
      refine HCON.out.mono ?_
      rintro e W' ⟨v, rfl, hr, hb⟩
      have k := HJ.out.keep hb
      exact hK.out _ _ ⟨HSW.out _ k.bel, true, l3, l4, l5, _, _, _, _, rfl, rfl, ⟨k.bel, k.hB, fun _ => (own_row hr).2, k.m3, fun hl => absurd (k.m4 hl).1 (by decide), k.m5⟩⟩
    · cases h2
    · obtain rfl : l3 = false := h2
      refine wpOp_hid rfl (fun K hK => ?_)
      have HCON := Lib.hid (rComponents_yes a ns N c (.slice ao es.length ec) es W HNN.out (HEV.out W hJ.bel) (HRV.out W hJ.bel) HV.out)
      have HJ := Lib.hid hJ
      clear h3 hJ
      go_simp
      refine HCON.out.mono ?_
      rintro e W' ⟨v, rfl, hr, hb⟩
      have k := HJ.out.keep hb
      exact hK.out _ _ ⟨HSW.out _ k.bel, l1, true, l4, l5, _, _, _, _, rfl, rfl, ⟨k.bel, k.hB, k.m1, fun _ => hr, k.m4, fun hl => absurd (k.m5 hl).1 (by decide)⟩⟩
    · obtain rfl : l4 = false := h2
      obtain ⟨rfl, rfl⟩ : l1 = true ∧ l3 = true := by
        cases l1 <;> cases l3 <;> cases l5 <;> first | exact ⟨rfl, rfl⟩ | exact Bool.noConfusion (h3.symm.trans (by kernel_rfl : _ = false))
      refine wpOp_hid rfl (fun K hK => ?_)
      have k := hJ
      clear h3 hJ
      go_simp
      exact hK.out _ _ ⟨HSW.out _ k.bel, true, true, true, l5, _, _, _, _, rfl, rfl, ⟨k.bel, k.hB, k.m1, k.m3, fun _ => ⟨rfl, rfl⟩, k.m5⟩⟩
    · obtain rfl : l5 = false := h2
      obtain ⟨rfl, rfl⟩ : l1 = true ∧ l3 = true := by
        cases l1 <;> cases l3 <;> cases l4 <;> first | exact ⟨rfl, rfl⟩ | exact Bool.noConfusion (h3.symm.trans (by kernel_rfl : _ = false))
      refine wpOp_hid rfl (fun K hK => ?_)
      have k := hJ
      clear h3 hJ
      go_simp
      exact hK.out _ _ ⟨HSW.out _ k.bel, true, true, l4, true, _, _, _, _, rfl, rfl, ⟨k.bel, k.hB, k.m1, k.m3, k.m4, fun _ => ⟨rfl, rfl⟩⟩⟩
  case fin =>
    rintro listed a' W ⟨l1, l3, l4, l5, s3, s4, s20, s22, rfl, rfl, hJ⟩ hr
    have q1 := ready_nil hr 1 (by kernel_rfl)
    obtain rfl : l1 = true := q1
    have q3 := ready_nil hr 3 (by kernel_rfl)
    obtain rfl : l3 = true := q3
    have q4 := ready_nil hr 4 (by kernel_rfl)
    obtain rfl : l4 = true := q4
    have q5 := ready_nil hr 5 (by kernel_rfl)
    obtain rfl : l5 = true := q5
    obtain ⟨_, e4⟩ := hJ.m4 rfl
    obtain ⟨_, e5⟩ := hJ.m5 rfl
    subst e4
    subst e5
    have hgr := hJ.m1 rfl
    have HRO := Lib.hid (hJ.m3 rfl)
    have hbW := hJ.bel
    have hsW := hJ.hB
    have HBW := Lib.hid (HW1.out.trans (hbW.mono (by omega)))
    have HGW := Lib.hid ((hbW.block _ hgl).trans HG1.out)
    obtain ⟨ga, gc, hgv, _⟩ := rowOf_open hgr
    rw [List.length_map, List.length_range] at hgv
    subst hgv
    obtain ⟨oa, oc, hov⟩ := rows_shape HRO.out
    subst hov
    have HGR : Hid (∀ i, i < N → ∃ b off, ga = some ⟨b, off, none⟩ ∧ b < W.heap.size ∧ W.cell? ⟨b, off + i, none⟩ = some (.int .i64 (grpN N es i : Int))) := Lib.hid (fun i hi => by
      rcases hgr with ⟨h, _⟩ | ⟨b, off, cap, e, hb, h⟩
      · have := congrArg List.length h; simp at this; omega
      · obtain ⟨e1, _, _⟩ := Value.slice.inj e
        exact ⟨b, off, e1, hb, h i _ (by rw [List.getElem?_map, List.getElem?_range hi]; rfl)⟩)
    have hmk := make_ints N (by omega) W
    obtain ⟨W5, hW5⟩ : ∃ V, V = W.alloc (.cells (Array.replicate N (.int .i64 0)) 3) := ⟨_, rfl⟩
    have hs5 : W5.heap.size = W.heap.size + 1 := by rw [hW5]; simp
    have HB5 : Hid (Below W.heap.size W W5) := Lib.hid (by rw [hW5]; exact bel_alloc _ _)
    have HI5 : Hid (Ints W5 W.heap.size (List.replicate N 0)) := Lib.hid (by
      rw [hW5]
      exact (World.alloc_heap_new W _).trans (by simp))
    have hgN : W.cell? ⟨w.heap.size, 0, none⟩ = some (.slice a N c) := cell_of_row _ _ 0 _ _ _ HGW.out
    have HLZ := Lib.hid (LvR.zero N es lv)
    have hcl : (compsG N es).length ≤ N := by rw [comps_len]; exact (nodesG_len (numbered N es)).1
    clear hJ hr hgr hbW hg0 hg1 HSW HEV HRV
    refine NoPanic.normal ?_
    go_wp2_with fail
    rw [← hW5]
    clear hmk hgN hW5
    go_loopw [6, 7] (fun p q wr => ∃ (i : Nat) (d : List Int), i ≤ (compsG N es).length ∧ q = .int .i64 i ∧ p = .int .i64 (mostL lv ((listF (condG N es)).take i)) ∧ Hid (LvR N es lv i d) ∧ Hid (Ints wr W.heap.size d) ∧ Hid (Below W.heap.size W wr)) (fun _ q _ => (compsG N es).length - (intOf q).toNat)
    case atStart => exact ⟨0, _, by omega, rfl, rfl, HLZ, HI5, HB5⟩
    case round =>
      clear HLZ HI5 HB5
      obtain ⟨i, d, hi, rfl, rfl, HL, HI, HB⟩ := hrel
      have hsr := HB.out.size
      have hIl : W.heap.size < wr.heap.size := (Array.getElem?_eq_some_iff.1 HI.out).1
      have hdl := HL.out.1
      obtain ⟨hm0, hm1⟩ := mostL_bound HLV.out i
      obtain ⟨mo, hmo⟩ : ∃ mo, mo = mostL lv ((listF (condG N es)).take i) := ⟨_, rfl⟩
      have HMO := Lib.hid hmo
      rw [← hmo] at hm0 hm1 ⊢
      clear hmo
      by_cases hlt : i < (compsG N es).length
      case neg =>
        have hii : i = (compsG N es).length := by omega
        have HD : Hid (∀ n, n < N → gD d n = (lv (clG N es n) : Int)) := Lib.hid (LvR.all (by have := HL.out; rwa [hii] at this))
        have hTN := levs_len HLV.out
        obtain ⟨T, hT⟩ : ∃ T, T = (levelsG N es).length := ⟨_, rfl⟩
        have hmT : mo + 1 = (T : Int) := by
          have e : (compsG N es).length = (listF (condG N es)).length := by unfold compsG; rw [List.length_map]
          rw [HMO.out, hii, e, List.take_length, hT]
          exact mostL_all HLV.out
        have HTT := Lib.hid hT
        have HMT := Lib.hid hmT
        rw [← hT] at hTN
        have hi1 : ¬ (i : Int) < ((compsG N es).length : Int) := by omega
        have hi2 : decide ((i : Int) < ((compsG N es).length : Int)) = false := decide_eq_false hi1
        have HROWK : Hid (∀ k, (levelsG N es).getD k [] = (List.range N).filter fun n => gD d n == (k : Int)) := Lib.hid (fun k => level_row HLV.out HD.out k)
        obtain ⟨Wo, hWo⟩ : ∃ V : World, V = wr := ⟨_, rfl⟩
        subst hWo
        have HO0 : Hid (Rowed Wo.heap.size (.slice (some ⟨Wo.heap.size, 0, none⟩) 0 0) [] [] (Wo.alloc (.cells #[] 26))) := Lib.hid ⟨own_made Wo.heap.size 26 0 [] Wo (Nat.le_refl _) (by decide) rfl, fun i u l hu => by simp at hu⟩
        have HBO0 : Hid (Below Wo.heap.size Wo (Wo.alloc (.cells #[] 26))) := Lib.hid (bel_alloc _ _)
        clear hii hT hmT
        go_wp2_with fail
        clear hi1 hi2
        go_loopw [12, 13] (fun o q wr => ∃ (k : Nat) (vs : List Value), k ≤ T ∧ q = .int .i64 k ∧ Hid (Rowed Wo.heap.size o vs ((levelsG N es).take k) wr) ∧ Hid (Below Wo.heap.size Wo wr)) (fun _ q _ => T - (intOf q).toNat)
        case atStart => exact ⟨0, [], by omega, rfl, HO0, HBO0⟩
        case round =>
          clear HO0 HBO0
          obtain ⟨k, vs, hk, rfl, HO, HBO⟩ := hrel
          have hso := HBO.out.size
          have htop := HO.out.top
          have hlt' : ((levelsG N es).take k).length = k := by rw [List.length_take, ← HTT.out]; omega
          rw [hlt'] at htop
          obtain ⟨oa2, oc2, hov2⟩ := own_any htop
          subst hov2
          clear htop hlt'
          by_cases hlt2 : k < T
          case neg =>
            have hkT : k = T := by omega
            have HE4 : Hid ((levelsG N es).take k = levelsG N es) := Lib.hid (by rw [hkT, HTT.out, List.take_length])
            have r1 : ¬ (k : Int) ≤ mo := by have := HMT.out; omega
            have r2 : decide ((k : Int) ≤ mo) = false := decide_eq_false r1
            clear hkT
            go_wp2_with fail
            go_ret
            exact ⟨_, rfl, by rw [← HE4.out]; exact HO.out.rows, HBW.out.trans ((HB.out.trans (HBO.out.mono (by omega))).mono (by omega))⟩
          case pos =>
            have r1 : (k : Int) ≤ mo := by have := HMT.out; omega
            have r2 : decide ((k : Int) ≤ mo) = true := decide_eq_true r1
            have HTK : Hid ((levelsG N es).take (k + 1) = (levelsG N es).take k ++ [(List.range N).filter fun n => gD d n == (k : Int)]) := Lib.hid (by
              have h : k < (levelsG N es).length := by rw [← HTT.out]; exact hlt2
              have e := HROWK.out k
              rw [List.getD_eq_getElem?_getD, List.getElem?_eq_getElem h] at e
              have e : (levelsG N es)[k] = _ := e
              rw [List.take_succ_eq_append_getElem h, e])
            obtain ⟨W6, hW6⟩ : ∃ V : World, V = wr := ⟨_, rfl⟩
            subst hW6
            have HC0 : Hid ((W6.alloc (.cells #[] 3)).ownsRow W6.heap.size 3 1 (.slice (some ⟨W6.heap.size, 0, none⟩) 0 0) 0 []) := Lib.hid (own_made W6.heap.size 3 0 [] W6 (Nat.le_refl _) (by decide) rfl)
            have HCB : Hid (Below W6.heap.size W6 (W6.alloc (.cells #[] 3))) := Lib.hid (bel_alloc _ _)
            go_wp2_with fail
            clear r1 r2
            go_loopw [14, 15] (fun cv q wr => ∃ m : Nat, m ≤ N ∧ q = .int .i64 m ∧ Hid (wr.ownsRow W6.heap.size 3 1 cv ((List.range m).filter fun n => gD d n == (k : Int)).length (((List.range m).filter fun n => gD d n == (k : Int)).map natC)) ∧ Hid (Below W6.heap.size W6 wr)) (fun _ q _ => N - (intOf q).toNat)
            case atStart => exact ⟨0, by omega, rfl, HC0, HCB⟩
            case round =>
              clear HC0 HCB
              obtain ⟨m, hm, rfl, HC, HBC⟩ := hrel
              have hsc := HBC.out.size
              obtain ⟨ca, cc, rfl⟩ := own_any HC.out
              have hfl2 : ((List.range m).filter fun n => gD d n == (k : Int)).length ≤ m := by
                have := List.length_filter_le (fun n => gD d n == (k : Int)) (List.range m)
                rwa [List.length_range] at this
              have HIV : Hid (Ints wr W.heap.size d) := Lib.hid ((HBC.out.block _ (by omega)).trans ((HBO.out.block _ hIl).trans HI.out))
              by_cases hlt3 : m < N
              case pos =>
                have hm0' : (0 : Int) ≤ (m : Int) := by omega
                have hm1' : (m : Int) < (N : Int) := by omega
                have hdm0 : d[m]? = some (gD d m) := by
                  unfold gD
                  rw [List.getD_eq_getElem?_getD, List.getElem?_eq_getElem (by omega)]
                  rfl
                have hdm := HIV.out.cell m _ hdm0
                have HT : Hid ((List.range (m + 1)).filter (fun n => gD d n == (k : Int)) = (List.range m).filter (fun n => gD d n == (k : Int)) ++ if (gD d m == (k : Int)) = true then [m] else []) := Lib.hid (by rw [List.range_succ, List.filter_append]; congr 1; rw [List.filter_cons]; rfl)
                obtain ⟨gm, hgm⟩ : ∃ gm, gm = gD d m := ⟨_, rfl⟩
                rw [← hgm] at hdm HT
                clear hgm hdm0
                by_cases hq2 : gm = (k : Int)
                case pos =>
                  rw [if_pos (by simpa using hq2)] at HT
                  have r2 : decide (gm = (k : Int)) = true := decide_eq_true hq2
                  have r3 : (gm == (k : Int)) = true := by simpa using hq2
                  clear hq2
                  go_wp2_with (at_builtin; refine wpList_append_own _ rfl _ _ 26 rfl W6.heap.size 3 j0 (.int .i64 0) 1 8 Try.underlying26 hj0' hy0 hy1 hy2 rfl (by decide) _ _ _ (by rfl) (HC.out.alloc _) ⟨wr.heap.size, 0, none⟩ 1 1 [natC m] (by rfl) (by rfl) (World.news_of_block (cs := #[natC m]) (t := 3) (fr := (0, 0)) (heap_alloc_new wr _)) (by simp [Value.oneCell']) (by unfold maxLen; omega) (by omega) (by simp; omega) ?_; intro v' w5 hown' hgrow _)
                  go_roundw
                  case rel => exact ⟨m + 1, by omega, by go_num, Lib.hid (by rw [HT.out, List.length_append, List.map_append]; exact hown'), Lib.hid ((HBC.out.alloc hsc _).grown hgrow (by simp; omega) (fun b hb => (HC.out.lt b hb).1))⟩
                  case measure => simp [intOf]; omega
                case neg =>
                  have r2 : decide (gm = (k : Int)) = false := decide_eq_false hq2
                  have r3 : (gm == (k : Int)) = false := by simpa using hq2
                  rw [if_neg (by simpa using hq2), List.append_nil] at HT
                  go_wp2_with fail
                  go_roundw
                  case rel => exact ⟨m + 1, by omega, by go_num, Lib.hid (by rw [HT.out]; exact HC.out), HBC⟩
                  case measure => simp [intOf]; omega
              case neg =>
                have hmN : m = N := by omega
                have hce := HC.out
                rw [hmN] at hce
                have HCW : Hid (wr.ownsRow Wo.heap.size 3 1 (.slice ca ((List.range m).filter fun n => gD d n == (k : Int)).length cc) ((List.range N).filter fun n => gD d n == (k : Int)).length (((List.range N).filter fun n => gD d n == (k : Int)).map natC)) := Lib.hid (by
                  rw [hmN]
                  exact ⟨hce.1, hce.2.imp id fun ⟨g, cap, cur, h1, h2, h3⟩ => ⟨g, cap, cur, h1, by omega, h3⟩⟩)
                have HOV := Lib.hid (HO.out.far (W' := wr) (fun b _ hb => HBC.out.block b hb))
                have htv := HOV.out.top
                have hltk : ((levelsG N es).take k).length = k := by rw [List.length_take, ← HTT.out]; omega
                rw [hltk] at htv
                have HTV := Lib.hid htv
                have HLT := Lib.hid hltk
                have HBV : Hid (Below Wo.heap.size Wo wr) := Lib.hid (HBO.out.trans (HBC.out.mono (by omega)))
                have hk1024 : k ≤ 1025 := by omega
                have hm1 : ¬ (m : Int) < (N : Int) := by omega
                have hm2 : decide ((m : Int) < (N : Int)) = false := decide_eq_false hm1
                generalize ((List.range m).filter fun n => gD d n == (k : Int)).length = cl at *
                clear hce htv hltk hmN
                go_wp2_with (at_builtin; refine wpList_append_own _ rfl _ _ 43 rfl Wo.heap.size 26 i1 (.slice none 0 0) 1 24 Try.underlying43 hi1' hz0 hz1 hz2 rfl (by decide) _ k vs (by rfl) (HTV.out.alloc _) ⟨wr.heap.size, 0, none⟩ 1 1 [.slice ca cl cc] (by rfl) (by rfl) (World.news_of_block (cs := #[.slice ca cl cc]) (t := 26) (fr := (0, 0)) (heap_alloc_new wr _)) (by simp [Value.oneCell']) (by unfold maxLen; omega) (by omega) (by simp; omega) ?_; intro v' w5 hown' hgrow _; have HOW5 := Lib.hid hown'; have HGR5 := Lib.hid hgrow; clear hown' hgrow; obtain ⟨a5, c5, rfl⟩ := own_any HOW5.out)
                go_roundw
                case rel =>
                  refine ⟨k + 1, vs ++ [.slice ca cl cc], by omega, by go_num, Lib.hid ?_, Lib.hid ?_⟩
                  · rw [HTK.out]
                    have hal := HOV.out.far (W' := wr.alloc (.cells #[.slice ca cl cc] 26)) (fun b _ hb => Below.heap_alloc _ _ _ hb)
                    exact hal.push (HCW.out.alloc _) HGR5.out (by rw [HLT.out]; exact HOW5.out)
                  · exact (HBV.out.alloc (by omega) _).grown HGR5.out (by simp; omega) (fun b hb => by have := (HTV.out.lt b hb).1; omega)
                case measure => simp [intOf]; omega
      case pos =>
        have hi0 : (0 : Int) ≤ (i : Int) := by omega
        have hi1 : (i : Int) < ((compsG N es).length : Int) := by omega
        obtain ⟨cc, hcc, hcM, hrow, hcond, htake⟩ := comp_at hlt
        obtain ⟨row, hrw⟩ : ∃ row, row = (nodesG N es).getD cc [] := ⟨_, rfl⟩
        rw [← hrw] at hrow
        have hrd : (compsG N es).getD i [] = row := by rw [List.getD_eq_getElem?_getD, hrow]; rfl
        obtain ⟨hhd, hhN, _⟩ := hdG_head hcM
        rw [← hrw] at hhd
        obtain ⟨b, off, cap, hta, hbl, r, hcr, hrr⟩ := rows_at HRO.out i hlt
        cases hta
        rw [hrd] at hrr
        have hrn : ∀ x ∈ row, x < N := fun x hx => by rw [hrw] at hx; exact (nodesG_mem.1 hx).1
        have hrl : row.length ≤ N := by
          rw [hrw, nodesG_filter]
          have := List.length_filter_le (fun k => clG N es k == cc) (List.range N)
          rwa [List.length_range] at this
        have hrp : 0 < row.length := by
          cases row with
          | nil => simp at hhd
          | cons x l => simp
        have h0r : row[0]? = some (hdG N es cc) := by rw [← List.head?_eq_getElem?]; exact hhd
        obtain ⟨rb, ro, rc, hr, hrbl, hrc⟩ : ∃ rb ro rc, r = .slice (some ⟨rb, ro, none⟩) row.length rc ∧ rb < W.heap.size ∧ ∀ j x, row[j]? = some x → W.cell? ⟨rb, ro + j, none⟩ = some (natC x) := by
          rcases hrr with ⟨h, _⟩ | ⟨rb, ro, rc, h1, h2, h3⟩
          · rw [h] at hrp; simp at hrp
          · exact ⟨rb, ro, rc, h1, h2, h3⟩
        subst hr
        have HROW := Lib.hid hrw
        have HCOND := Lib.hid hcond
        have HTAKE := Lib.hid htake
        have HRC : Hid (∀ V : World, Below W.heap.size W V → V.cell? ⟨b, off + i, none⟩ = some (.slice (some ⟨rb, ro, none⟩) row.length rc) ∧ ∀ j x, row[j]? = some x → V.cell? ⟨rb, ro + j, none⟩ = some (natC x)) := Lib.hid fun V hV => ⟨(hV.cell (p := ⟨b, off + i, none⟩) hbl).trans hcr, fun j x hx => (hV.cell (p := ⟨rb, ro + j, none⟩) hrbl).trans (hrc j x hx)⟩
        obtain ⟨hd, hhdv⟩ : ∃ hd, hd = hdG N es cc := ⟨_, rfl⟩
        rw [← hhdv] at h0r hhN
        have HHD := Lib.hid hhdv
        have HCC := Lib.hid hcc
        have HRN := Lib.hid hrn
        have H0R := Lib.hid h0r
        have hlvN := lv_le HLV.out hcM
        obtain ⟨lc, hlc⟩ : ∃ lc, lc = lv cc := ⟨_, rfl⟩
        have HLC := Lib.hid hlc
        rw [← hlc] at hlvN
        have HLM : Hid (∀ k, lmax N es (fun n => lv (clG N es n)) hd (es.take k) ≤ lc) := Lib.hid (fun k => by rw [hhdv, hlc]; exact lmax_take HV.out HLV.out hcM k)
        have HLE : Hid (lmax N es (fun n => lv (clG N es n)) hd es = lc) := Lib.hid (by rw [hhdv, hlc]; exact lmax_lev HV.out HLV.out hcM)
        obtain ⟨Wo, hWo⟩ : ∃ V : World, V = wr := ⟨_, rfl⟩
        subst hWo
        clear hcc hcond htake hrow hrw hrd hhd hcr hrr hrc hhdv hrn h0r hlc
        go_wp2_with fail
        go_loopw [8, 9] (fun p q wr => ∃ k : Nat, k ≤ es.length ∧ q = .int .i64 k ∧ p = .int .i64 (lmax N es (fun n => lv (clG N es n)) hd (es.take k) : Int) ∧ Hid (Below Wo.heap.size Wo wr)) (fun _ q _ => es.length - (intOf q).toNat)
        case atStart => exact ⟨0, by omega, rfl, rfl, Lib.hid (Below.refl _ _)⟩
        case round =>
          obtain ⟨k, hk, rfl, rfl, HBK⟩ := hrel
          have hsk := HBK.out.size
          have HBX : Hid (Below W.heap.size W wr) := Lib.hid (HB.out.trans (HBK.out.mono (by omega)))
          have hg1 : wr.cell? ⟨w.heap.size, 1, none⟩ = some (.slice ao es.length ec) := cell_of_row _ _ 1 _ _ _ ((HBX.out.block _ (by omega)).trans HGW.out)
          have HIX : Hid (Ints wr W.heap.size d) := Lib.hid ((HBK.out.block _ hIl).trans HI.out)
          by_cases hlt2 : k < es.length
          case pos =>
            have hk0 : (0 : Int) ≤ (k : Int) := by omega
            have hk1 : (k : Int) < (es.length : Int) := by omega
            have HBW0 : Hid (Below w.heap.size w wr) := Lib.hid (HBW.out.trans (HBX.out.mono (by omega)))
            obtain ⟨eb, eo, hao, heb, hc1, hc2⟩ := HE.out k es[k] (by simp [hlt2])
            subst hao
            have hc1 := (HBW0.out.cell (p := ⟨eb, eo + k * 2, none⟩) heb).trans hc1
            have hc2 := (HBW0.out.cell (p := ⟨eb, eo + k * 2 + 1, none⟩) heb).trans hc2
            have hxm : es[k] ∈ es := List.getElem_mem hlt2
            have hed := validG_edge HV.out hxm
            have HT := Lib.hid (lmax_succ N es (fun n => lv (clG N es n)) hd k hlt2)
            have hbnd := HLM.out k
            have hbnd2 := HLM.out (k + 1)
            obtain ⟨⟨x1, x2⟩, hx⟩ : ∃ x, x = es[k] := ⟨_, rfl⟩
            rw [← hx] at hc1 hc2 hed HT hxm
            clear hx
            obtain ⟨i', rfl⟩ : ∃ i : Nat, x1 = (i : Int) := ⟨x1.toNat, by simp at hed; omega⟩
            obtain ⟨j, rfl⟩ : ∃ j : Nat, x2 = (j : Int) := ⟨x2.toNat, by simp at hed; omega⟩
            simp only at hc1 hc2 hed
            obtain ⟨hi0', hi1', hj0, hj1⟩ := hed
            have hiN : i' < N := by omega
            have hjN : j < N := by omega
            obtain ⟨gb, go, hge, hgb, hgi⟩ := HGR.out i' hiN
            subst hge
            obtain ⟨gb3, go3, hge, _, hgj⟩ := HGR.out j hjN
            cases hge
            have hgi := (HBX.out.cell (p := ⟨gb, go + i', none⟩) hgb).trans hgi
            have hgj := (HBX.out.cell (p := ⟨gb, go + j, none⟩) hgb).trans hgj
            have hor := (HRC.out wr HBX.out).1
            have hoh := (HRC.out wr HBX.out).2 0 hd H0R.out
            rw [Nat.add_zero] at hoh
            have hdj0 : d[j]? = some (gD d j) := by
              unfold gD
              rw [List.getD_eq_getElem?_getD, List.getElem?_eq_getElem (by omega)]
              rfl
            have hdj := HIX.out.cell j _ hdj0
            have HSTP : Hid (lmStep N es (fun n => lv (clG N es n)) hd (lmax N es (fun n => lv (clG N es n)) hd (es.take k)) ((i' : Int), (j : Int)) = if grpN N es i' = hd ∧ grpN N es j ≠ hd then max (lmax N es (fun n => lv (clG N es n)) hd (es.take k)) (lv (clG N es j) + 1) else lmax N es (fun n => lv (clG N es n)) hd (es.take k)) := Lib.hid (by unfold lmStep; simp only [Int.toNat_natCast])
            have HED : Hid (grpN N es i' = hd → grpN N es j ≠ hd → gD d j = (lv (clG N es j) : Int) ∧ lv (clG N es j) ≤ N) := Lib.hid (fun e1 e2 => by
              have hm := edge_cond hcM hiN hjN hxm (by rw [← HHD.out]; exact e1) (by rw [← HHD.out]; exact e2)
              exact ⟨HL.out.2 j hjN (HCOND.out _ hm), lv_le HLV.out (clG_lt hjN)⟩)
            have HBA : Hid (Below Wo.heap.size Wo (wr.alloc (.cells #[.int .i64 (i' : Int), .int .i64 (j : Int)] 39))) := Lib.hid (HBK.out.alloc hsk _)
            rw [HT.out, HSTP.out] at hbnd2
            have HT2 : Hid (lmax N es (fun n => lv (clG N es n)) hd (es.take (k + 1)) = if grpN N es i' = hd ∧ grpN N es j ≠ hd then max (lmax N es (fun n => lv (clG N es n)) hd (es.take k)) (lv (clG N es j) + 1) else lmax N es (fun n => lv (clG N es n)) hd (es.take k)) := Lib.hid (HT.out.trans HSTP.out)
            clear HT HSTP hxm hdj0
            generalize lmax N es (fun n => lv (clG N es n)) hd (es.take k) = lk at *
            obtain ⟨lk1, hlk1⟩ : ∃ x, x = lmax N es (fun n => lv (clG N es n)) hd (es.take (k + 1)) := ⟨_, rfl⟩
            rw [← hlk1] at HT2
            have HLK := Lib.hid hlk1
            clear hlk1
            generalize grpN N es i' = gi at *
            generalize grpN N es j = gj at *
            generalize gD d j = dj at *
            have hci := cellA (.cells #[.int .i64 (i' : Int), .int .i64 (j : Int)] 39) hgi
            have hcj := cellA (.cells #[.int .i64 (i' : Int), .int .i64 (j : Int)] 39) hgj
            have hco := cellA (.cells #[.int .i64 (i' : Int), .int .i64 (j : Int)] 39) hor
            have hch := cellA (.cells #[.int .i64 (i' : Int), .int .i64 (j : Int)] 39) hoh
            have hcd := cellA (.cells #[.int .i64 (i' : Int), .int .i64 (j : Int)] 39) hdj
            clear hgi hgj hor hoh hdj
            have hrp0 : (0 : Int) < (row.length : Int) := by omega
            by_cases q1 : gi = hd
            case neg =>
              have r1 : ¬ (gi : Int) = (hd : Int) := by omega
              have r2 : decide ((gi : Int) = (hd : Int)) = false := decide_eq_false r1
              have r3 : ((gi : Int) == (hd : Int)) = false := by simpa using r1
              have r4 : (gi == hd) = false := by simpa using q1
              have HP : Hid (lk1 = lk) := Lib.hid (by rw [HT2.out, if_neg (fun h => q1 h.1)])
              clear hbnd2
              go_wp2_with fail
              go_quiet (fail)
              go_wp2_with fail
              go_roundw
              case rel => exact ⟨k + 1, by omega, by go_num, by rw [← HLK.out, HP.out], Lib.hid (below_drewN HBA.out _)⟩
              case measure => simp [intOf]; omega
            case pos =>
              have s1 : (gi : Int) = (hd : Int) := by omega
              have s2 : decide ((gi : Int) = (hd : Int)) = true := decide_eq_true s1
              have s3 : ((gi : Int) == (hd : Int)) = true := by simpa using s1
              have s4 : (gi == hd) = true := by simpa using q1
              by_cases q2 : gj = hd
              case pos =>
                have HP : Hid (lk1 = lk) := Lib.hid (by rw [HT2.out, if_neg (fun h => h.2 q2)])
                clear hbnd2 s1 s2 s3 s4
                subst q1
                subst q2
                go_wp2_with fail
                go_quiet (fail)
                go_wp2_with fail
                go_roundw
                case rel => exact ⟨k + 1, by omega, by go_num, by rw [← HLK.out, HP.out], Lib.hid (below_drewN HBA.out _)⟩
                case measure => simp [intOf]; omega
              case neg =>
                have r1 : ¬ (gj : Int) = (hd : Int) := by omega
                have r2 : decide ((gj : Int) = (hd : Int)) = false := decide_eq_false r1
                have r3 : ((gj : Int) == (hd : Int)) = false := by simpa using r1
                have r4 : (gj == hd) = false := by simpa using q2
                obtain ⟨hdv, hln⟩ := HED.out q1 q2
                subst hdv
                have HP : Hid (lk1 = max lk (lv (clG N es j) + 1)) := Lib.hid (by rw [HT2.out, if_pos ⟨q1, q2⟩])
                generalize lv (clG N es j) = lj at *
                have hwp : IntKind.i64.wrap ((lj : Int) + 1) = (lj : Int) + 1 := IntWalk.i64_in _ (by omega)
                have hw64 : wrap64 ((lj : Int) + 1) = (lj : Int) + 1 := IntWalk.wrap64_in _ (by omega)
                clear hbnd2
                go_wp2_with fail
                go_quiet (fail)
                go_wp2_with fail
                go_roundw
                case rel => exact ⟨k + 1, by omega, by go_num, by rw [← HLK.out, HP.out]; exact congrArg _ (max_cast lk lj), Lib.hid (below_drewN HBA.out _)⟩
                case measure => simp [intOf]; omega
          case neg =>
            have hkk : k = es.length := by omega
            subst hkk
            rw [List.take_length, HLE.out]
            obtain ⟨Wk, hWk⟩ : ∃ V : World, V = wr := ⟨_, rfl⟩
            subst hWk
            have hIk : W.heap.size < Wk.heap.size := by omega
            go_wp2_with fail
            go_loopw [11] (fun q wr => ∃ (m : Nat) (d' : List Int), m ≤ row.length ∧ q = .int .i64 m ∧ Hid (SetR d row m (lc : Int) d') ∧ Hid (Ints wr W.heap.size d') ∧ Hid (Below W.heap.size W wr)) (fun q _ => row.length - (intOf q).toNat)
            case atStart => exact ⟨0, d, by omega, rfl, Lib.hid (SetR.zero _ _ _), HIX, HBX⟩
            case round =>
              clear HIX
              obtain ⟨m, d', hm, rfl, HS, HIM, HBM⟩ := hrel
              have hsm := HBM.out.size
              have hor := (HRC.out wr HBM.out).1
              by_cases hlt3 : m < row.length
              case pos =>
                have hm0' : (0 : Int) ≤ (m : Int) := by omega
                have hm1' : (m : Int) < (row.length : Int) := by omega
                have hxm : row[m] ∈ row := List.getElem_mem hlt3
                have hxN := HRN.out _ hxm
                have hSN := HS.out.step hlt3 (by omega)
                have hrx := (HRC.out wr HBM.out).2 m row[m] (by simp [hlt3])
                obtain ⟨x, hx⟩ : ∃ x, x = row[m] := ⟨_, rfl⟩
                rw [← hx] at hxN hSN hrx
                have HSN := Lib.hid hSN
                have hx0 : (0 : Int) ≤ (x : Int) := by omega
                have hx1 : (x : Int) < (N : Int) := by omega
                have hfz := frozen_of_row _ _ x _ _ HIM.out
                have hcx0 : d'[x]? = some (gD d' x) := by
                  have := HS.out.1
                  unfold gD
                  rw [List.getD_eq_getElem?_getD, List.getElem?_eq_getElem (by omega)]
                  rfl
                have hcx := HIM.out.cell x _ hcx0
                have HI2 := Lib.hid (HIM.out.set x (lc : Int))
                have HB2 : Hid (Below W.heap.size W (wr.setCell ⟨W.heap.size, x, none⟩ (intC (lc : Int)))) := Lib.hid (HBM.out.setCell (by exact Nat.le_refl _) _)
                clear hSN hx hxm hcx0
                go_wp2_with fail
                go_roundw
                case rel => exact ⟨m + 1, _, by omega, by go_num, HSN, HI2, HB2⟩
                case measure => simp [intOf]; omega
              case neg =>
                have hmm : m = row.length := by omega
                subst hmm
                have HL2 : Hid (LvR N es lv (i + 1) d') := Lib.hid (HL.out.step HTAKE.out (by rw [← HROW.out, ← HLC.out]; exact HS.out))
                have HM2 : Hid (mostL lv ((listF (condG N es)).take (i + 1)) = max mo (lc : Int)) := Lib.hid (by rw [HTAKE.out, mostL_app, ← HMO.out, ← HLC.out])
                go_wp2_with fail
                go_roundw
                case rel => exact ⟨i + 1, d', by omega, by go_num, by rw [HM2.out], HL2, HIM, HBM⟩
                case measure => simp [intOf]; omega
end Go.Proofs.Ytlcgbkeggmaljaa
