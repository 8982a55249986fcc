/- The law GraphAcyclic returns true. -/
import Derived.Test.YtlcgbkeggmaljaaGAcyc1
namespace Go.Proofs.Ytlcgbkeggmaljaa
set_option linter.unusedVariables false
set_option linter.unusedSimpArgs false
open Go Go.RowKit

set_option maxRecDepth 100000 in
set_option maxHeartbeats 8000000 in
theorem GraphAcyclic_any (a : Option Addr) (c : Nat) (ev : Value) (ns : List ByteArray) (es : List (Int × Int)) (w : World) (hE : EdgesOf w.heap.size ev es w) (hR : RowOf Value.string w.heap.size (.slice a ns.length c) ns w) :
    Calls Try.prog 8 #[.agg #[.slice a ns.length c, ev]] w fun e w' => e = .returned (.bool true) ∧ Below w.heap.size w w' := by
  have hE0 := hE
  obtain ⟨ao, ec, rfl, _⟩ := hE
  have HE := Lib.hid hE0
  have HR := Lib.hid hR
  have HB0 : Hid (Below w.heap.size w (w.alloc (.cells #[.slice a ns.length c, .slice ao es.length ec] 25))) := Lib.hid (bel_alloc _ _)
  have HG0 : Hid ((w.alloc (.cells #[.slice a ns.length c, .slice ao es.length ec] 25)).heap[w.heap.size]? = some (.cells #[.slice a ns.length c, .slice ao es.length ec] 25 (0, 0))) := Lib.hid (World.alloc_heap_new w _)
  have HAW := Lib.hid (awake_any (w.alloc (.cells #[.slice a ns.length c, .slice ao es.length ec] 25)))
  clear hE0 hR
  go_enter Try.func8, Try.ntmps8
  go_wp2_with fail
  refine HAW.out.mono ?_
  rintro e w1 ⟨rfl, hb1⟩
  have hs1 := hb1.size
  simp only [World.size_alloc] at hs1
  have HG1 := Lib.hid ((hb1.block w.heap.size (by simp)).trans HG0.out)
  have HB1 := Lib.hid (HB0.out.trans (hb1.mono (by simp)))
  have hg0 : w1.cell? ⟨w.heap.size, 0, none⟩ = some (.slice a ns.length c) := cell_of_row _ _ 0 _ _ _ HG1.out
  have hg1 : w1.cell? ⟨w.heap.size, 1, none⟩ = some (.slice ao es.length ec) := cell_of_row _ _ 1 _ _ _ HG1.out
  have HFW := Lib.hid (Few_any a ao ns.length c es.length ec w1)
  clear hb1 HAW
  go_wp2_with fail
  refine HFW.out.mono ?_
  rintro e w2 ⟨rfl, hb2⟩
  have hs2 := hb2.size
  have HG2 := Lib.hid ((hb2.block w.heap.size (by omega)).trans HG1.out)
  have HB2 := Lib.hid (HB1.out.trans (hb2.mono (by omega)))
  have hg0 : w2.cell? ⟨w.heap.size, 0, none⟩ = some (.slice a ns.length c) := cell_of_row _ _ 0 _ _ _ HG2.out
  have hg1 : w2.cell? ⟨w.heap.size, 1, none⟩ = some (.slice ao es.length ec) := cell_of_row _ _ 1 _ _ _ HG2.out
  clear hb2 HFW
  by_cases hfw : (decide (ns.length ≤ 14) && decide (es.length ≤ 60)) = true
  case neg =>
    have hf2 : (decide (ns.length ≤ 14) && decide (es.length ≤ 60)) = false := by simpa using hfw
    rw [hf2]
    clear hfw hf2
    go_wp2_with fail
    go_ret
    exact ⟨rfl, HB2.out⟩
  case pos =>
    have hN : ns.length ≤ 14 := by rw [Bool.and_eq_true] at hfw; exact of_decide_eq_true hfw.1
    have hes : es.length ≤ 60 := by rw [Bool.and_eq_true] at hfw; exact of_decide_eq_true hfw.2
    rw [hfw]
    clear hfw
    have HVW := Lib.hid (rValid_any a ns.length c (.slice ao es.length ec) es w2 (by omega) (by omega) ((HE.out.below HB2.out (Nat.le_refl _)).mono (by omega)))
    go_wp2_with fail
    refine HVW.out.mono ?_
    rintro e w3 ⟨rfl, hb3⟩
    have hs3 := hb3.size
    have HG3 := Lib.hid ((hb3.block w.heap.size (by omega)).trans HG2.out)
    have HB3 := Lib.hid (HB2.out.trans (hb3.mono (by omega)))
    have hg0 : w3.cell? ⟨w.heap.size, 0, none⟩ = some (.slice a ns.length c) := cell_of_row _ _ 0 _ _ _ HG3.out
    have hg1 : w3.cell? ⟨w.heap.size, 1, none⟩ = some (.slice ao es.length ec) := cell_of_row _ _ 1 _ _ _ HG3.out
    clear hb3 HVW
    by_cases hv : validG ns.length es = true
    case neg =>
      have hv2 : validG ns.length es = false := by simpa using hv
      rw [hv2]
      clear hv hv2
      go_wp2_with fail
      go_ret
      exact ⟨rfl, HB3.out⟩
    case pos =>
      have HV := Lib.hid hv
      rw [hv]
      clear hv
      have HOW := Lib.hid (Order_yes (.slice a ns.length c) (.slice ao es.length ec) ns es w3 ((HE.out.below HB3.out (Nat.le_refl _)).mono (by omega)) ((HR.out.below HB3.out (Nat.le_refl _)).mono (by omega)) HV.out)
      go_wp2_with fail
      refine HOW.out.mono ?_
      rintro e w4 ⟨v4, rfl, hown4, hb4⟩
      have hs4 := hb4.size
      have HG4 := Lib.hid ((hb4.block w.heap.size (by omega)).trans HG3.out)
      have HB4 := Lib.hid (HB3.out.trans (hb4.mono (by omega)))
      have hrow4 := row_of_own hown4
      obtain ⟨a4, c4, rfl⟩ := own_any hown4
      have HR4 := Lib.hid hrow4
      have hg0 : w4.cell? ⟨w.heap.size, 0, none⟩ = some (.slice a ns.length c) := cell_of_row _ _ 0 _ _ _ HG4.out
      have hg1 : w4.cell? ⟨w.heap.size, 1, none⟩ = some (.slice ao es.length ec) := cell_of_row _ _ 1 _ _ _ HG4.out
      clear hb4 hown4 hrow4 HOW
      obtain ⟨ll, hll⟩ : ∃ ll, ll = (if cycF ns.length es ns.length = [] then listF (sucs ns.length es) else []) := ⟨_, rfl⟩
      rw [← hll] at HR4 ⊢
      obtain ⟨ok, hok⟩ : ∃ ok, ok = decide (cycF ns.length es ns.length = []) := ⟨_, rfl⟩
      rw [← hok]
      have HLLE := Lib.hid hll
      have HOK := Lib.hid hok
      clear hll hok
      have hg05 := cellA (.cells #[.slice a4 ll.length c4] 26) hg0
      have hg15 := cellA (.cells #[.slice a4 ll.length c4] 26) hg1
      obtain ⟨W5, hW5⟩ : ∃ W, W = w4.alloc (.cells #[.slice a4 ll.length c4] 26) := ⟨_, rfl⟩
      have hb5 : Below w4.heap.size w4 W5 := by rw [hW5]; exact bel_alloc _ _
      have hs5 : W5.heap.size = w4.heap.size + 1 := by rw [hW5]; simp
      have HL5 : Hid (W5.heap[w4.heap.size]? = some (.cells #[.slice a4 ll.length c4] 26 (0, 0))) := Lib.hid (by rw [hW5]; exact World.alloc_heap_new w4 _)
      have HG5 := Lib.hid ((hb5.block w.heap.size (by omega)).trans HG4.out)
      have HB5 := Lib.hid (HB4.out.trans (hb5.mono (by omega)))
      have HR5 := Lib.hid (HR4.out.below hb5 (Nat.le_refl _))
      have hcw := Cycle_yes (.slice a ns.length c) (.slice ao es.length ec) ns es W5 ((HE.out.below HB5.out (Nat.le_refl _)).mono (by omega)) ((HR.out.below HB5.out (Nat.le_refl _)).mono (by omega)) HV.out
      have HCW := Lib.hid hcw
      clear hb5 hcw
      go_wp2_with fail
      rw [← hW5]
      refine HCW.out.mono ?_
      rintro e w6 ⟨v6, rfl, hown6, hb6, hnil6⟩
      have hs6 := hb6.size
      have HL6 := Lib.hid ((hb6.block w4.heap.size (by omega)).trans HL5.out)
      have HG6 := Lib.hid ((hb6.block w.heap.size (by omega)).trans HG5.out)
      have HB6 := Lib.hid (HB5.out.trans (hb6.mono (by omega)))
      have HR6 := Lib.hid (HR5.out.below hb6 (by omega))
      clear hb6 hg0 hg1 hg05 hg15 hW5 HCW
      have hg0 : w6.cell? ⟨w.heap.size, 0, none⟩ = some (.slice a ns.length c) := cell_of_row _ _ 0 _ _ _ HG6.out
      have hg1 : w6.cell? ⟨w.heap.size, 1, none⟩ = some (.slice ao es.length ec) := cell_of_row _ _ 1 _ _ _ HG6.out
      have hgl : w6.cell? ⟨w4.heap.size, 0, none⟩ = some (.slice a4 ll.length c4) := cell_of_row _ _ 0 _ _ _ HL6.out
      by_cases hC : cycF ns.length es ns.length = []
      case pos =>
        have hv6 := hnil6 hC
        subst hv6
        have hlls : ll = listF (sucs ns.length es) := by rw [HLLE.out, if_pos hC]
        have hlen : ll.length = ns.length := by rw [hlls, listF_length, sucs_length]
        have hdc : ok = true := HOK.out.trans (decide_eq_true hC)
        subst hdc
        have ho := order_ok hC
        have hany := has_edge 35 #[.pointer (some ⟨w4.heap.size, 0, none⟩)] (enters_of Try.func35 (by kernel_rfl) rfl) (fun _ => false) (.slice ao es.length ec) es w6 (by omega) ((HE.out.below HB6.out (Nat.le_refl _)).mono (by omega)) (fun W x hx hW => by
          have hed := validG_edge HV.out hx
          obtain ⟨x1, x2⟩ := x
          simp only at hed
          obtain ⟨i1, rfl⟩ : ∃ i1 : Nat, x1 = (i1 : Int) := ⟨x1.toNat, by omega⟩
          obtain ⟨j1, rfl⟩ : ∃ j1 : Nat, x2 = (j1 : Int) := ⟨x2.toNat, by omega⟩
          obtain ⟨i, j, hji, hi, hj⟩ := order_at hC (u := i1) (v := j1) (by omega) (mem_sucs.2 ⟨by omega, by omega, hx⟩)
          have hnod : ll.Nodup := by rw [hlls]; unfold listF; rw [sucs_length]; exact ho.nod
          rw [← hlls] at hi hj
          refine (acyc1_any w4.heap.size a4 ll.length c4 w4.heap.size (ll.map fun n : Nat => (n : Int)) i1 j1 i j W (by rw [List.length_map]; omega) (cell_of_row _ _ 0 _ _ _ ((hW.block _ (by omega)).trans HL6.out)) (by have := hW.size; omega) (HR6.out.below hW (by omega)) (idx_at hnod hi) (idx_at hnod hj) hji).mono fun e w' h => ⟨h.1, hW.trans (h.2.mono hW.size)⟩)
        rw [show (es.any fun _ => false) = false from by simp] at hany
        have HANY := Lib.hid hany
        rw [hlen] at hgl
        rw [hlen]
        clear hany ho hown6 hnil6 hC hlls HLLE HOK
        go_wp2_with fail
        refine HANY.out.mono ?_
        rintro e wz ⟨rfl, hbz⟩
        have HBZ := Lib.hid (HB6.out.trans (hbz.mono (by omega)))
        clear hbz
        go_wp2_with fail
        go_ret
        exact ⟨rfl, HBZ.out⟩
      case neg =>
        have hlls : ll = [] := by rw [HLLE.out, if_neg hC]
        subst hlls
        have hdc : ok = false := HOK.out.trans (decide_eq_false hC)
        subst hdc
        rw [List.length_nil] at hgl HL6 ⊢
        have hcp := cycF_cyc hC
        have hCp : 0 < (cycF ns.length es ns.length).length := List.length_pos_iff.2 hC
        have hCl : (cycF ns.length es ns.length).length ≤ ns.length := by
          have hp : (cycF ns.length es ns.length).Perm ((List.range ns.length).filter fun k => decide (k ∈ cycF ns.length es ns.length)) := (List.perm_ext_iff_of_nodup hcp.nod (List.nodup_range.filter _)).2 fun k => by
            rw [List.mem_filter, List.mem_range, decide_eq_true_eq]
            exact ⟨fun hk => ⟨hcp.lt k hk, hk⟩, fun hk => hk.2⟩
          rw [hp.length_eq]
          have := List.length_filter_le (fun k => decide (k ∈ cycF ns.length es ns.length)) (List.range ns.length)
          rwa [List.length_range] at this
        have HCP := Lib.hid hcp
        have hrow6 := row_of_own hown6
        obtain ⟨gc, cc, hv6, hgcb, hgcl, _⟩ := own_shape hown6 hCp
        subst hv6
        have HCC : Hid (∀ (i x : Nat), (cycF ns.length es ns.length)[i]? = some x → w6.cell? ⟨gc, i, none⟩ = some (.int .i64 (x : Int))) := Lib.hid fun i x h => own_cell hown6 i (natC x) (by rw [List.getElem?_map, h]; rfl)
        have HCR := Lib.hid hrow6
        obtain ⟨x0, hx0⟩ : ∃ x0, (cycF ns.length es ns.length)[0]? = some x0 := ⟨(cycF ns.length es ns.length)[0], by simp [hCp]⟩
        have HX0 := Lib.hid hx0
        have q1 : ¬ ((cycF ns.length es ns.length).length : Int) = 0 := by omega
        have q2 : decide (((cycF ns.length es ns.length).length : Int) = 0) = false := decide_eq_false q1
        have q3 : (((cycF ns.length es ns.length).length : Int) == 0) = false := by simpa using q1
        have HL6' := HL6
        clear hcp hrow6 hown6 hnil6 hx0 HLLE HOK
        go_wp2_with fail
        clear hgl hg0 hg1
        go_loopw [47] (fun q wr => ∃ i : Nat, i ≤ (cycF ns.length es ns.length).length ∧ q = .int .i64 i ∧ Hid (Below w6.heap.size w6 wr)) (fun q _ => (cycF ns.length es ns.length).length - (intOf q).toNat)
        case atStart => exact ⟨0, by omega, rfl, Lib.hid (Below.refl _ _)⟩
        case round =>
          obtain ⟨i, hi, rfl, HBI⟩ := hrel
          have hsi := HBI.out.size
          by_cases hlt : i < (cycF ns.length es ns.length).length
          · have hi0 : (0 : Int) ≤ (i : Int) := by omega
            have hi1 : (i : Int) < ((cycF ns.length es ns.length).length : Int) := by omega
            obtain ⟨jj, hjj⟩ : ∃ jj, jj = (i + 1) % (cycF ns.length es ns.length).length := ⟨_, rfl⟩
            have hjl : jj < (cycF ns.length es ns.length).length := by rw [hjj]; exact Nat.mod_lt _ hCp
            obtain ⟨n, hn⟩ : ∃ n, (cycF ns.length es ns.length)[i]? = some n := ⟨(cycF ns.length es ns.length)[i], by simp [hlt]⟩
            obtain ⟨z, hz⟩ : ∃ z, (cycF ns.length es ns.length)[jj]? = some z := ⟨(cycF ns.length es ns.length)[jj], by simp [hjl]⟩
            have hed := HCP.out.edge i n z hn (by rw [← hjj]; exact hz)
            have hge := HCP.out.hd x0 HX0.out n (List.mem_of_getElem? hn)
            have hidx := idx_at HCP.out.nod hn
            have hcn := (HBI.out.cell (p := ⟨gc, i, none⟩) (by exact hgcl)).trans (HCC.out i n hn)
            have HCI : Hid (∀ W, Below w6.heap.size w6 W → HeldR ⟨w.heap.size, 1, none⟩ ⟨gc, 0, none⟩ ⟨gc, jj, none⟩ (.slice ao es.length ec) (.int .i64 (x0 : Int)) (.int .i64 (z : Int)) W) := Lib.hid fun W hW => ⟨cell_of_row _ _ 1 _ _ _ ((hW.block _ (by omega)).trans HG6.out), (hW.cell (p := ⟨gc, 0, none⟩) (by exact hgcl)).trans (HCC.out 0 x0 HX0.out), (hW.cell (p := ⟨gc, jj, none⟩) (by exact hgcl)).trans (HCC.out _ z hz)⟩
            have HBd : Hid (Below w6.heap.size w6 wr.drew) := Lib.hid HBI.out.drew
            have hSd := HCI.out _ HBd.out
            have hix := Index_ints (.slice (some ⟨gc, 0, none⟩) (cycF ns.length es ns.length).length cc) ((cycF ns.length es ns.length).map fun n : Nat => (n : Int)) (n : Int) w6.heap.size wr.drew (by rw [List.length_map]; omega) (HCR.out.below HBd.out (Nat.le_refl _))
            rw [hidx] at hix
            have hec := EdgeContains_any (.slice ao es.length ec) es (n : Int) (z : Int) wr.drew (by omega) (List.length_pos_of_mem hed) ((HE.out.below (HB6.out.trans (HBd.out.mono (by omega))) (Nat.le_refl _)).mono (by have := HBd.out.size; omega))
            rw [decide_eq_true hed] at hec
            have HIX := Lib.hid hix
            have HEC := Lib.hid hec
            have p1 : decide ((n : Int) < (x0 : Int)) = false := decide_eq_false (by omega)
            have p2 : decide (n < x0) = false := decide_eq_false (by omega)
            have hwi : IntKind.i64.wrap ((i : Int) + 1) = (i : Int) + 1 := IntWalk.i64_in _ (by omega)
            have hrem : Int.tmod ((i : Int) + 1) ((cycF ns.length es ns.length).length : Int) = (jj : Int) := by
              rw [show ((i : Int) + 1) = ((i + 1 : Nat) : Int) from by simp, hjj]
              rfl
            have hwj : IntKind.i64.wrap (jj : Int) = (jj : Int) := IntWalk.i64_in _ (by omega)
            have hj0 : (0 : Int) ≤ (jj : Int) := by omega
            have hj1 : (jj : Int) < ((cycF ns.length es ns.length).length : Int) := by omega
            clear hn hz hed hge hidx hix hec hjj
            go_wp2_with fail
            refine region_plainP (S := HeldR ⟨w.heap.size, 1, none⟩ ⟨gc, 0, none⟩ ⟨gc, jj, none⟩ (.slice ao es.length ec) (.int .i64 (x0 : Int)) (.int .i64 (z : Int))) (by kernel_rfl) ?_
            (refine wpAnyH_take (i := 0) (v := ?_) rfl (by kernel_rfl) (by kernel_rfl) (by kernel_rfl) (fun _ _ _ h => h) (Or.inl ⟨by rfl, ?_⟩) (by assumption) ?_; rotate_left; (· (intro w hSw; obtain ⟨c0, c1, c2⟩ := hSw; go_simp; try with_reducible rfl)); (try simp only [List.getElem_toArray, List.getElem_cons_zero, List.getElem_cons_succ, Act.put, List.setIfInBounds_toArray, List.set_cons_zero, List.set_cons_succ]))
            (refine wpAnyH_take (i := 1) (v := ?_) rfl (by kernel_rfl) (by kernel_rfl) (by kernel_rfl) (fun _ _ _ h => h) (Or.inl ⟨by rfl, ?_⟩) (by assumption) ?_; rotate_left; (· (intro w hSw; obtain ⟨c0, c1, c2⟩ := hSw; go_simp; try with_reducible rfl)); (try simp only [List.getElem_toArray, List.getElem_cons_zero, List.getElem_cons_succ, Act.put, List.setIfInBounds_toArray, List.set_cons_zero, List.set_cons_succ]))
            (refine wpAnyH_take (i := 2) (v := ?_) rfl (by kernel_rfl) (by kernel_rfl) (by kernel_rfl) (fun _ _ _ h => h) (Or.inl ⟨by rfl, ?_⟩) (by assumption) ?_; rotate_left; (· (intro w hSw; obtain ⟨c0, c1, c2⟩ := hSw; go_simp; try with_reducible rfl)); (try simp only [List.getElem_toArray, List.getElem_cons_zero, List.getElem_cons_succ, Act.put, List.setIfInBounds_toArray, List.set_cons_zero, List.set_cons_succ]))
            (refine wpAnyH_take (i := 3) (v := ?_) rfl (by kernel_rfl) (by kernel_rfl) (by kernel_rfl) (fun _ _ _ h => h) (Or.inl ⟨by rfl, ?_⟩) (by assumption) ?_; rotate_left; (· (intro w hSw; obtain ⟨c0, c1, c2⟩ := hSw; go_simp; try with_reducible rfl)); (try simp only [List.getElem_toArray, List.getElem_cons_zero, List.getElem_cons_succ, Act.put, List.setIfInBounds_toArray, List.set_cons_zero, List.set_cons_succ]))
            (refine wpAnyH_take (i := 4) (v := ?_) rfl (by kernel_rfl) (by kernel_rfl) (by kernel_rfl) (fun _ _ _ h => h) (Or.inl ⟨by rfl, ?_⟩) (by assumption) ?_; rotate_left; (· (intro w hSw; obtain ⟨c0, c1, c2⟩ := hSw; go_simp; try with_reducible rfl)); (try simp only [List.getElem_toArray, List.getElem_cons_zero, List.getElem_cons_succ, Act.put, List.setIfInBounds_toArray, List.set_cons_zero, List.set_cons_succ]))
            (refine wpAnyH_take (i := 5) (v := ?_) rfl (by kernel_rfl) (by kernel_rfl) (by kernel_rfl) (fun _ _ _ h => h) (Or.inl ⟨by rfl, ?_⟩) (by assumption) ?_; rotate_left; (· (intro w hSw; obtain ⟨c0, c1, c2⟩ := hSw; go_simp; try with_reducible rfl)); (try simp only [List.getElem_toArray, List.getElem_cons_zero, List.getElem_cons_succ, Act.put, List.setIfInBounds_toArray, List.set_cons_zero, List.set_cons_succ]))
            (refine wpAnyH_take (i := 6) (v := ?_) rfl (by kernel_rfl) (by kernel_rfl) (by kernel_rfl) (fun _ _ _ h => h) (Or.inl ⟨by rfl, ?_⟩) (by assumption) ?_; rotate_left; (· (intro w hSw; obtain ⟨c0, c1, c2⟩ := hSw; go_simp; try with_reducible rfl)); (try simp only [List.getElem_toArray, List.getElem_cons_zero, List.getElem_cons_succ, Act.put, List.setIfInBounds_toArray, List.set_cons_zero, List.set_cons_succ]))
            (refine wpAnyH_take (i := 7) (v := ?_) rfl (by kernel_rfl) (by kernel_rfl) (by kernel_rfl) (fun _ _ _ h => h) (Or.inl ⟨by rfl, ?_⟩) (by assumption) ?_; rotate_left; (· (intro w hSw; obtain ⟨c0, c1, c2⟩ := hSw; go_simp; try with_reducible rfl)); (try simp only [List.getElem_toArray, List.getElem_cons_zero, List.getElem_cons_succ, Act.put, List.setIfInBounds_toArray, List.set_cons_zero, List.set_cons_succ]))
            (refine wpAnyH_take (i := 9) (v := ?_) rfl (by kernel_rfl) (by kernel_rfl) (by kernel_rfl) (fun _ _ _ h => h) (Or.inl ⟨by rfl, ?_⟩) (by assumption) ?_; rotate_left; (· (intro w hSw; obtain ⟨c0, c1, c2⟩ := hSw; go_simp; try with_reducible rfl)); (try simp only [List.getElem_toArray, List.getElem_cons_zero, List.getElem_cons_succ, Act.put, List.setIfInBounds_toArray, List.set_cons_zero, List.set_cons_succ]))
            refine wpAnyH_ready (rs := [8]) (by kernel_rfl) (by simp) (AllReadyH.cons rfl (fun K hK => ?_) AllReadyH.nil)
            go_simp
            refine HIX.out.mono ?_
            rintro e w8 ⟨rfl, hw8⟩
            rw [hw8]
            clear hw8 w8 HIX
            try go_simp
            refine hK.out _ _ hSd (fun _ => ?_)
            clear hK K
            (try simp only [List.getElem_toArray, List.getElem_cons_zero, List.getElem_cons_succ, Act.put, List.setIfInBounds_toArray, List.set_cons_zero, List.set_cons_succ])
            (refine wpAnyH_take (i := 10) (v := ?_) rfl (by kernel_rfl) (by kernel_rfl) (by kernel_rfl) (fun _ _ _ h => h) (Or.inl ⟨by rfl, ?_⟩) (by assumption) ?_; rotate_left; (· (intro w hSw; obtain ⟨c0, c1, c2⟩ := hSw; go_simp; try with_reducible rfl)); (try simp only [List.getElem_toArray, List.getElem_cons_zero, List.getElem_cons_succ, Act.put, List.setIfInBounds_toArray, List.set_cons_zero, List.set_cons_succ]))
            (refine wpAnyH_take (i := 11) (v := ?_) rfl (by kernel_rfl) (by kernel_rfl) (by kernel_rfl) (fun _ _ _ h => h) (Or.inl ⟨by rfl, ?_⟩) (by assumption) ?_; rotate_left; (· (intro w hSw; obtain ⟨c0, c1, c2⟩ := hSw; go_simp; try with_reducible rfl)); (try simp only [List.getElem_toArray, List.getElem_cons_zero, List.getElem_cons_succ, Act.put, List.setIfInBounds_toArray, List.set_cons_zero, List.set_cons_succ]))
            (refine wpAnyH_take (i := 12) (v := ?_) rfl (by kernel_rfl) (by kernel_rfl) (by kernel_rfl) (fun _ _ _ h => h) (Or.inl ⟨by rfl, ?_⟩) (by assumption) ?_; rotate_left; (· (intro w hSw; obtain ⟨c0, c1, c2⟩ := hSw; go_simp; try with_reducible rfl)); (try simp only [List.getElem_toArray, List.getElem_cons_zero, List.getElem_cons_succ, Act.put, List.setIfInBounds_toArray, List.set_cons_zero, List.set_cons_succ]))
            (refine wpAnyH_take (i := 13) (v := ?_) rfl (by kernel_rfl) (by kernel_rfl) (by kernel_rfl) (fun _ _ _ h => h) (Or.inl ⟨by rfl, ?_⟩) (by assumption) ?_; rotate_left; (· (intro w hSw; obtain ⟨c0, c1, c2⟩ := hSw; go_simp; try with_reducible rfl)); (try simp only [List.getElem_toArray, List.getElem_cons_zero, List.getElem_cons_succ, Act.put, List.setIfInBounds_toArray, List.set_cons_zero, List.set_cons_succ]))
            (refine wpAnyH_take (i := 14) (v := ?_) rfl (by kernel_rfl) (by kernel_rfl) (by kernel_rfl) (fun _ _ _ h => h) (Or.inl ⟨by rfl, ?_⟩) (by assumption) ?_; rotate_left; (· (intro w hSw; obtain ⟨c0, c1, c2⟩ := hSw; go_simp; try with_reducible rfl)); (try simp only [List.getElem_toArray, List.getElem_cons_zero, List.getElem_cons_succ, Act.put, List.setIfInBounds_toArray, List.set_cons_zero, List.set_cons_succ]))
            (refine wpAnyH_take (i := 15) (v := ?_) rfl (by kernel_rfl) (by kernel_rfl) (by kernel_rfl) (fun _ _ _ h => h) (Or.inl ⟨by rfl, ?_⟩) (by assumption) ?_; rotate_left; (· (intro w hSw; obtain ⟨c0, c1, c2⟩ := hSw; go_simp; try with_reducible rfl)); (try simp only [List.getElem_toArray, List.getElem_cons_zero, List.getElem_cons_succ, Act.put, List.setIfInBounds_toArray, List.set_cons_zero, List.set_cons_succ]))
            (refine wpAnyH_take (i := 16) (v := ?_) rfl (by kernel_rfl) (by kernel_rfl) (by kernel_rfl) (fun _ _ _ h => h) (Or.inl ⟨by rfl, ?_⟩) (by assumption) ?_; rotate_left; (· (intro w hSw; obtain ⟨c0, c1, c2⟩ := hSw; go_simp; try with_reducible rfl)); (try simp only [List.getElem_toArray, List.getElem_cons_zero, List.getElem_cons_succ, Act.put, List.setIfInBounds_toArray, List.set_cons_zero, List.set_cons_succ]))
            (refine wpAnyH_take (i := 17) (v := ?_) rfl (by kernel_rfl) (by kernel_rfl) (by kernel_rfl) (fun _ _ _ h => h) (Or.inl ⟨by rfl, ?_⟩) (by assumption) ?_; rotate_left; (· (intro w hSw; obtain ⟨c0, c1, c2⟩ := hSw; go_simp; try with_reducible rfl)); (try simp only [List.getElem_toArray, List.getElem_cons_zero, List.getElem_cons_succ, Act.put, List.setIfInBounds_toArray, List.set_cons_zero, List.set_cons_succ]))
            (refine wpAnyH_take (i := 18) (v := ?_) rfl (by kernel_rfl) (by kernel_rfl) (by kernel_rfl) (fun _ _ _ h => h) (Or.inl ⟨by rfl, ?_⟩) (by assumption) ?_; rotate_left; (· (intro w hSw; obtain ⟨c0, c1, c2⟩ := hSw; go_simp; try with_reducible rfl)); (try simp only [List.getElem_toArray, List.getElem_cons_zero, List.getElem_cons_succ, Act.put, List.setIfInBounds_toArray, List.set_cons_zero, List.set_cons_succ]))
            (refine wpAnyH_take (i := 19) (v := ?_) rfl (by kernel_rfl) (by kernel_rfl) (by kernel_rfl) (fun _ _ _ h => h) (Or.inl ⟨by rfl, ?_⟩) (by assumption) ?_; rotate_left; (· (intro w hSw; obtain ⟨c0, c1, c2⟩ := hSw; go_simp; try with_reducible rfl)); (try simp only [List.getElem_toArray, List.getElem_cons_zero, List.getElem_cons_succ, Act.put, List.setIfInBounds_toArray, List.set_cons_zero, List.set_cons_succ]))
            (refine wpAnyH_take (i := 20) (v := ?_) rfl (by kernel_rfl) (by kernel_rfl) (by kernel_rfl) (fun _ _ _ h => h) (Or.inl ⟨by rfl, ?_⟩) (by assumption) ?_; rotate_left; (· (intro w hSw; obtain ⟨c0, c1, c2⟩ := hSw; go_simp; try with_reducible rfl)); (try simp only [List.getElem_toArray, List.getElem_cons_zero, List.getElem_cons_succ, Act.put, List.setIfInBounds_toArray, List.set_cons_zero, List.set_cons_succ]))
            (refine wpAnyH_take (i := 21) (v := ?_) rfl (by kernel_rfl) (by kernel_rfl) (by kernel_rfl) (fun _ _ _ h => h) (Or.inl ⟨by rfl, ?_⟩) (by assumption) ?_; rotate_left; (· (intro w hSw; obtain ⟨c0, c1, c2⟩ := hSw; go_simp; try with_reducible rfl)); (try simp only [List.getElem_toArray, List.getElem_cons_zero, List.getElem_cons_succ, Act.put, List.setIfInBounds_toArray, List.set_cons_zero, List.set_cons_succ]))
            (refine wpAnyH_take (i := 22) (v := ?_) rfl (by kernel_rfl) (by kernel_rfl) (by kernel_rfl) (fun _ _ _ h => h) (Or.inl ⟨by rfl, ?_⟩) (by assumption) ?_; rotate_left; (· (intro w hSw; obtain ⟨c0, c1, c2⟩ := hSw; go_simp; try with_reducible rfl)); (try simp only [List.getElem_toArray, List.getElem_cons_zero, List.getElem_cons_succ, Act.put, List.setIfInBounds_toArray, List.set_cons_zero, List.set_cons_succ]))
            (refine wpAnyH_take (i := 23) (v := ?_) rfl (by kernel_rfl) (by kernel_rfl) (by kernel_rfl) (fun _ _ _ h => h) (Or.inl ⟨by rfl, ?_⟩) (by assumption) ?_; rotate_left; (· (intro w hSw; obtain ⟨c0, c1, c2⟩ := hSw; go_simp; try with_reducible rfl)); (try simp only [List.getElem_toArray, List.getElem_cons_zero, List.getElem_cons_succ, Act.put, List.setIfInBounds_toArray, List.set_cons_zero, List.set_cons_succ]))
            (refine wpAnyH_take (i := 24) (v := ?_) rfl (by kernel_rfl) (by kernel_rfl) (by kernel_rfl) (fun _ _ _ h => h) (Or.inl ⟨by rfl, ?_⟩) (by assumption) ?_; rotate_left; (· (intro w hSw; obtain ⟨c0, c1, c2⟩ := hSw; go_simp; try with_reducible rfl)); (try simp only [List.getElem_toArray, List.getElem_cons_zero, List.getElem_cons_succ, Act.put, List.setIfInBounds_toArray, List.set_cons_zero, List.set_cons_succ]))
            refine wpAnyH_ready (rs := [25]) (by kernel_rfl) (by simp) (AllReadyH.cons rfl (fun K hK => ?_) AllReadyH.nil)
            go_simp
            refine HEC.out.mono ?_
            rintro e w9 ⟨rfl, hb9⟩
            have HB9 := Lib.hid (HBd.out.trans (hb9.mono HBd.out.size))
            have hS9 := HCI.out _ HB9.out
            clear hb9 HEC
            try go_simp
            refine hK.out _ _ hS9 (fun _ => ?_)
            clear hK K
            (try simp only [List.getElem_toArray, List.getElem_cons_zero, List.getElem_cons_succ, Act.put, List.setIfInBounds_toArray, List.set_cons_zero, List.set_cons_succ])
            (refine wpAnyH_take (i := 26) (v := ?_) rfl (by kernel_rfl) (by kernel_rfl) (by kernel_rfl) (fun _ _ _ h => h) (Or.inl ⟨by rfl, ?_⟩) (by assumption) ?_; rotate_left; (· (intro w hSw; obtain ⟨c0, c1, c2⟩ := hSw; go_simp; try with_reducible rfl)); (try simp only [List.getElem_toArray, List.getElem_cons_zero, List.getElem_cons_succ, Act.put, List.setIfInBounds_toArray, List.set_cons_zero, List.set_cons_succ]))
            (refine wpAnyH_take (i := 27) (v := ?_) rfl (by kernel_rfl) (by kernel_rfl) (by kernel_rfl) (fun _ _ _ h => h) (Or.inl ⟨by rfl, ?_⟩) (by assumption) ?_; rotate_left; (· (intro w hSw; obtain ⟨c0, c1, c2⟩ := hSw; go_simp; try with_reducible rfl)); (try simp only [List.getElem_toArray, List.getElem_cons_zero, List.getElem_cons_succ, Act.put, List.setIfInBounds_toArray, List.set_cons_zero, List.set_cons_succ]))
            refine wpAnyH_done (by kernel_rfl) ?_ _
            refine NoPanic.normal ?_
            go_wp2_with fail
            go_roundw
            case rel => exact ⟨i + 1, by omega, by go_num, HB9⟩
            case measure => simp [intOf]; omega
          · obtain ⟨w9, hw9⟩ : ∃ W : World, W = wr := ⟨_, rfl⟩
            subst hw9
            have hii : i = (cycF ns.length es ns.length).length := by omega
            subst hii
            have hg1 : w9.cell? ⟨w.heap.size, 1, none⟩ = some (.slice ao es.length ec) := cell_of_row _ _ 1 _ _ _ ((HBI.out.block _ (by omega)).trans HG6.out)
            go_wp2_with fail
            clear hg1
            go_loopw [84] (fun q wr => ∃ m : Nat, m ≤ es.length ∧ q = .int .i64 m ∧ Hid (Below w6.heap.size w6 wr)) (fun q _ => es.length - (intOf q).toNat)
            case atStart => exact ⟨0, by omega, rfl, HBI⟩
            case round =>
              clear HBI hsi
              obtain ⟨m, hm, rfl, HBM⟩ := hrel
              have hsm := HBM.out.size
              by_cases hlt2 : m < es.length
              · have hm0 : (0 : Int) ≤ (m : Int) := by omega
                have hm1 : (m : Int) < (es.length : Int) := by omega
                obtain ⟨ao', ec', hao, hE2⟩ := HE.out
                cases hao
                obtain ⟨b, off, rfl, hb, hc1, hc2⟩ := hE2 m es[m] (by simp [hlt2])
                have HBW : Hid (Below w.heap.size w wr) := Lib.hid (HB6.out.trans (HBM.out.mono (by omega)))
                have hc1 := (HBW.out.cell (p := ⟨b, off + m * 2, none⟩) hb).trans hc1
                have hc2 := (HBW.out.cell (p := ⟨b, off + m * 2 + 1, none⟩) hb).trans hc2
                have hed := validG_edge HV.out (List.getElem_mem hlt2)
                have hmm := List.getElem_mem hlt2
                obtain ⟨⟨x1, x2⟩, hx⟩ : ∃ x, x = es[m] := ⟨_, rfl⟩
                rw [← hx] at hc1 hc2 hed hmm
                clear hx hE2
                obtain ⟨i, rfl⟩ : ∃ i : Nat, x1 = (i : Int) := ⟨x1.toNat, by simp at hed; omega⟩
                obtain ⟨j, rfl⟩ : ∃ j : Nat, x2 = (j : Int) := ⟨x2.toNat, by simp at hed; omega⟩
                simp only at hc1 hc2 hed
                obtain ⟨hi0, hi1, hj0, hj1⟩ := hed
                have hiN : i < ns.length := by omega
                have hjN : j < ns.length := by omega
                have hsh : 0 < (pathF ns.length es j i).length → ¬ (pathF ns.length es j i).length < (cycF ns.length es ns.length).length := fun h0 => by
                  have hr : Rch (sucs ns.length es) j i := Classical.byContradiction fun h => by
                    rw [(pathF_nil hiN).2 h] at h0
                    simp at h0
                  obtain ⟨_, k, h1, h2, _⟩ := pathF_way hiN hr
                  have := (cycF_least (mem_sucs.2 ⟨hiN, hjN, hmm⟩) h2).2
                  omega
                have hg0 := cellA (.cells #[.int .i64 (i : Int), .int .i64 (j : Int)] 39) (show wr.cell? ⟨w.heap.size, 0, none⟩ = some (.slice a ns.length c) from cell_of_row _ _ 0 _ _ _ ((HBM.out.block _ (by omega)).trans HG6.out))
                have hg1 := cellA (.cells #[.int .i64 (i : Int), .int .i64 (j : Int)] 39) (show wr.cell? ⟨w.heap.size, 1, none⟩ = some (.slice (some ⟨b, off, none⟩) es.length ec) from cell_of_row _ _ 1 _ _ _ ((HBM.out.block _ (by omega)).trans HG6.out))
                obtain ⟨Wa, hWa⟩ : ∃ W, W = wr.alloc (.cells #[.int .i64 (i : Int), .int .i64 (j : Int)] 39) := ⟨_, rfl⟩
                have hba : Below w6.heap.size w6 Wa := by rw [hWa]; exact HBM.out.alloc hsm _
                have HPW := Lib.hid (Path_yes (.slice a ns.length c) (.slice (some ⟨b, off, none⟩) es.length ec) ns es j i Wa ((HE.out.below (HB6.out.trans (hba.mono (by omega))) (Nat.le_refl _)).mono (by have := hba.size; omega)) ((HR.out.below (HB6.out.trans (hba.mono (by omega))) (Nat.le_refl _)).mono (by have := hba.size; omega)) HV.out hjN hiN)
                have HBA := Lib.hid hba
                clear hba hmm
                go_wp2_with fail
                rw [← hWa]
                refine HPW.out.mono ?_
                rintro e w10 ⟨v10, rfl, hown10, hb10⟩
                have HB10 := Lib.hid (HBA.out.trans (hb10.mono HBA.out.size))
                have hpl := pathF_len HV.out hjN hiN
                obtain ⟨a10, c10, rfl⟩ := own_any hown10
                generalize (pathF ns.length es j i).length = pl at *
                clear hb10 hown10 HPW hWa hg0 hg1
                by_cases q : 0 < pl
                · have r1 : decide ((0 : Int) < (pl : Int)) = true := decide_eq_true (by omega)
                  have r2 : decide ((pl : Int) < ((cycF ns.length es ns.length).length : Int)) = false := decide_eq_false (by have := hsh q; omega)
                  have r3 : decide (pl < (cycF ns.length es ns.length).length) = false := decide_eq_false (hsh q)
                  clear hsh
                  go_wp2_with fail
                  go_roundw
                  case rel => exact ⟨m + 1, by omega, by go_num, HB10⟩
                  case measure => simp [intOf]; omega
                · have r1 : decide ((0 : Int) < (pl : Int)) = false := decide_eq_false (by omega)
                  clear hsh
                  go_wp2_with fail
                  go_roundw
                  case rel => exact ⟨m + 1, by omega, by go_num, HB10⟩
                  case measure => simp [intOf]; omega
              · have hgl : wr.cell? ⟨w4.heap.size, 0, none⟩ = some (.slice a4 0 c4) := cell_of_row _ _ 0 _ _ _ ((HBM.out.block _ (by omega)).trans HL6.out)
                go_wp2_with fail
                go_ret
                exact ⟨rfl, HB6.out.trans (HBM.out.mono (by omega))⟩
end Go.Proofs.Ytlcgbkeggmaljaa
