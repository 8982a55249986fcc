/- Contract of the constraint's combine. Contracts of the constraint's Union, Intersect, Complement, Minus, Subset. -/
import Derived.Test.YtenfkejbndifdaaGreatDoorUE
import Derived.Test.YtenfkejbndifdaaGreatDoorUL
import Derived.Test.YtenfkejbndifdaaGreatDoorUC
import Derived.Test.YtenfkejbndifdaaGreatDoorUA
import Derived.Test.YtenfkejbndifdaaGreatDoorUF
import Derived.Test.YtenfkejbndifdaaGreatDoorUV
import Derived.Test.YtenfkejbndifdaaGreatDoorUW
namespace Go.Proofs.YtenfkejbndifdaaGreatDoor
set_option linter.unusedVariables false
set_option linter.unusedSimpArgs false
open Go Go.RowKit Go.Sort

def KeepAt (g : Nat) (cb : Array Value) (keep : Int → Bool) (w : World) : Prop :=
  ∀ (W : World) (n : Int), Below w.heap.size w W → Calls Tryz.prog g (#[.int .i64 n] ++ cb) W fun e w' => e = .returned (.bool (keep n)) ∧ W = w'

def MapAt (W : World) (b : Nat) (E : List (Int × Int)) : Prop := ∃ D, W.ownsMap Tryz.prog 3 (plainElem (H := Unit) Tryz.prog 3) b (2 + 2 * E.length) D ∧ ReadsI D (chgE E) (keyE E)
theorem edges_turn {B b n k : Nat} {v : Value} {es : List (Int × Int)} {W W' : World} {R : Value → Option (DataW Unit × List MemPlace)} {D : DataW Unit} (h : SpansOf B v es W) (ho : W.ownsMap Tryz.prog k R b n D) (hg : W.grownBy W' (some b)) : SpansOf B v es W' := by
  obtain ⟨ao, cap, rfl, h⟩ := h
  refine ⟨ao, cap, rfl, fun i x hx => ?_⟩
  obtain ⟨b', off, rfl, hlt, h1, h2⟩ := h i x hx
  have hrow : ∀ r, some b = some r → ∃ o : Obj, W.heap[r]? = some o ∧ o.isCells = false := fun r e => by
    obtain ⟨es', clock, hb, _⟩ := ho
    cases e
    exact ⟨_, hb, rfl⟩
  exact ⟨b', off, rfl, hlt, cell_kept h1 hg hrow, cell_kept h2 hg hrow⟩

theorem runC_bd (E : List (Int × Int)) (hE : ∀ x ∈ E, 0 ≤ x.1 ∧ x.1 < x.2 ∧ x.2 ≤ 1000000) (k : Nat) (hk : k ≤ (boundsE E).length) : 0 ≤ runC E (boundsE E) k ∧ runC E (boundsE E) k ≤ E.length := by
  cases k with
  | zero => simp [runC]
  | succ k =>
    have hx : ∀ x ∈ E, x.1 ∈ boundsE E ∧ x.2 ∈ boundsE E ∧ x.1 < x.2 := fun x hx => ⟨(boundsE_mem E _).2 (.inr (.inr ⟨x, hx, .inl rfl⟩)), (boundsE_mem E _).2 (.inr (.inr ⟨x, hx, .inr rfl⟩)), (hE x hx).2.1⟩
    rw [runC_cov E (boundsE_strict E) hx hk (Int.le_refl _) (fun h => strict_get (boundsE_strict E) (Nat.lt_succ_self k) h)]
    have : covE E (boundsE E)[k] ≤ E.length := List.countP_le_length
    omega
theorem boundsE_bd (E : List (Int × Int)) (hE : ∀ x ∈ E, 0 ≤ x.1 ∧ x.1 < x.2 ∧ x.2 ≤ 1000000) (q : Int) (hq : q ∈ boundsE E) : 0 ≤ q ∧ q ≤ 1000000 := by
  rcases (boundsE_mem E q).1 hq with rfl | rfl | ⟨x, hx, rfl | rfl⟩
  · omega
  · omega
  · have := hE x hx; omega
  · have := hE x hx; omega
theorem boundsE_two (E : List (Int × Int)) : 2 ≤ (boundsE E).length := by
  have h0 := (boundsE_mem E 0).2 (.inl rfl)
  have h1 := (boundsE_mem E 1000000).2 (.inr (.inl rfl))
  match h : boundsE E with
  | [] => rw [h] at h0; cases h0
  | [a] => rw [h, List.mem_singleton] at h0 h1; omega
  | _ :: _ :: _ => simp
theorem info_int1 : (Tryz.prog.info? 3).map (fun i => (i.zero, i.size, i.bytes)) = some (some (.int .i64 0), 1, 8) := by kernel_rfl
theorem own_ne_obj {W : World} {B e s n b : Nat} {v : Value} {xs : List Value} {o : Obj} (h : W.ownsRow B e s v n xs) (hb : W.heap[b]? = some o) (hc : o.isCells = false) : some b ≠ v.ownBlock := by
  rcases h.2 with ⟨rfl, _⟩ | ⟨g, cap, cur, rfl, _, hg, _⟩
  · simp [Value.ownBlock]
  · intro h3
    simp [Value.ownBlock] at h3
    subst h3
    rw [hb] at hg
    cases hg
    cases hc
theorem ranges_obj {W : World} {k b r n cnt : Nat} {R : Value → Option (DataW Unit × List MemPlace)} {D : DataW Unit} {left : Lit → Bool} (h : W.ranges Tryz.prog k R b r n D left cnt) :
    (∃ o : Obj, W.heap[b]? = some o ∧ o.isCells = false) ∧ (∃ o : Obj, W.heap[r]? = some o ∧ o.isCells = false) := by
  obtain ⟨es, clock, since, seen, c0, hb, _, _, _, hr, _⟩ := h
  exact ⟨⟨_, hb, rfl⟩, ⟨_, hr, rfl⟩⟩

set_option maxRecDepth 100000 in
set_option maxHeartbeats 8000000 in
theorem combine_any (g : Nat) (cb : Array Value) (keep : Int → Bool) (v : Value) (l : List (List (Int × Int))) (w : World) (eg : ∀ args w, (callFunc g args).run Tryz.prog w = .ok (.enter g args) w) (hk : KeepAt g cb keep w) (hl : l.length ≤ 1000) (hs : ∀ s ∈ l, s.length ≤ 100000) (hS : SetsOf w.heap.size v l w) :
    Calls Tryz.prog 126 #[.func (.func g) #[] cb, v] w fun e w' => ∃ v', e = .returned v' ∧ SpansOf w'.heap.size v' (combS keep l) w' ∧ Below w.heap.size w w' := by
  obtain ⟨ao, ec, rfl, hS⟩ := hS
  have HS := Lib.hid hS
  have HK := Lib.hid hk
  have HL := Lib.hid hs
  clear hS hk hs
  have hmm := @run_makeMap Tryz.prog
  obtain ⟨w1, hr1, ho1, hg1⟩ := (World.ownsMap_made w Tryz.prog 3 (plainElem (H := Unit) Tryz.prog 3)).update lawI Tryz.underlying90 (by unfold maxLen; omega) (keyI (a := 0) (by omega) (by omega)) (elI_mk (a := 0) (by omega) (by omega))
  obtain ⟨w2, hr2, ho2, hg2⟩ := ho1.update lawI Tryz.underlying90 (by unfold maxLen; omega) (keyI (a := 1000000) (by omega) (by omega)) (elI_mk (a := 0) (by omega) (by omega))
  have hrd : ReadsI (((DataW.map []).put (.int .i64 0) (.lit (.int .i64 0))).put (.int .i64 1000000) (.lit (.int .i64 0))) (chgE []) (keyE []) :=
    ((readsI_nil.put 0 0).put 1000000 0).ext (fun x => by unfold chgE; simp) (fun x => by unfold keyE; simp; omega)
  have HB2 : Hid (Below w.heap.size w w2) := Lib.hid ((((Below.refl _ _).alloc (Nat.le_refl _) _).grown hg1 (by simp) (fun j hj => by cases hj; exact Nat.le_refl _)).grown hg2 (by have := hg1.size; simp at this; omega) (fun j hj => by cases hj; exact Nat.le_refl _))
  have HO2 : Hid (MapAt w2 w.heap.size []) := Lib.hid ⟨_, ho2, hrd⟩
  clear hrd hg1 hg2 ho1 ho2
  go_enter Tryz.func126, Tryz.ntmps126
  go_wp2_with fail
  go_loopw [19] (fun p wr => ∃ i : Nat, i ≤ l.length ∧ p = .int .i64 i ∧ Hid (MapAt wr w.heap.size (spansOf (l.take i))) ∧ Hid (Below w.heap.size w wr)) (fun p _ => l.length - (intOf p).toNat)
  case atStart => exact ⟨0, by omega, rfl, HO2, HB2⟩
  case round =>
    clear HO2 HB2
    obtain ⟨i, hi, rfl, HO, HB⟩ := hrel
    have hszr := HB.out.size
    have hElen := spansOf_len (l.take i) 100000 fun s hs => HL.out s (List.mem_of_mem_take hs)
    have hEl2 : (l.take i).length ≤ i := List.length_take_le _ _
    by_cases hlt : i < l.length
    · obtain ⟨b, off, r, rfl, hb, hcr, hEr⟩ := HS.out i l[i] (by simp [hlt])
      have hcr := (HB.out.cell (p := ⟨b, off + i, none⟩) hb).trans hcr
      have hsl : l[i].length ≤ 100000 := HL.out _ (List.getElem_mem hlt)
      have HT : Hid (spansOf (l.take (i + 1)) = spansOf (l.take i) ++ canon l[i]) := Lib.hid (by rw [List.take_succ_eq_append_getElem hlt, spansOf_snoc])
      obtain ⟨s, hsd⟩ : ∃ s, s = l[i] := ⟨_, rfl⟩
      rw [← hsd] at hEr hsl HT
      clear hsd
      have hcan := Canonical_any r s wr (by omega) ((hEr.below HB.out (Nat.le_refl _)).mono hszr)
      have HCAN := Lib.hid hcan
      have hcl := canon_len s
      have HCN := Lib.hid (canon_can s)
      clear hEr hcan
      generalize canon s = cs at *
      generalize spansOf (l.take i) = E at *
      go_wp2_with fail
      refine HCAN.out.mono ?_
      rintro e w4 ⟨v', rfl, hE4, hb4⟩
      have HB4 : Hid (Below w.heap.size w w4) := Lib.hid (HB.out.trans (hb4.mono hszr))
      have HO4 : Hid (MapAt w4 w.heap.size (E ++ cs.take 0)) := Lib.hid (by
        rw [List.take_zero, List.append_nil]
        obtain ⟨D, h1, h2⟩ := HO.out
        exact ⟨D, own_below h1 hb4 h1.lt, h2⟩)
      have HE4 := Lib.hid hE4
      obtain ⟨a', c', rfl, _⟩ := hE4
      clear hb4 HO HB HCAN hszr
      go_wp2_with fail
      go_loopw [26] (fun p wq => ∃ j : Nat, j ≤ cs.length ∧ p = .int .i64 j ∧ Hid (MapAt wq w.heap.size (E ++ cs.take j)) ∧ Hid (SpansOf w4.heap.size (.slice a' cs.length c') cs wq) ∧ Hid (Below w.heap.size w wq) ∧ w4.heap.size ≤ wq.heap.size) (fun p _ => cs.length - (intOf p).toNat)
      case atStart => exact ⟨0, by omega, rfl, HO4, HE4, HB4, Nat.le_refl _⟩
      case round =>
        clear HO4 HE4 HB4
        obtain ⟨j, hj, rfl, HO, HE, HB, hsz4⟩ := hrel
        have hszr := HB.out.size
        by_cases hjl : j < cs.length
        · obtain ⟨b4, off4, rfl, hb4, hc1, hc2⟩ : ∃ b4 off4, a' = some ⟨b4, off4, none⟩ ∧ b4 < w4.heap.size ∧ wr.cell? ⟨b4, off4 + j * 2, none⟩ = some (intC cs[j].1) ∧ wr.cell? ⟨b4, off4 + j * 2 + 1, none⟩ = some (intC cs[j].2) := by
            have h := HE.out
            obtain ⟨ao', cap', he, h⟩ := h
            have h2 := h j cs[j] (by simp [hjl])
            cases he
            exact h2
          have hx := HCN.out.2 cs[j] (List.getElem_mem hjl)
          have HT2 : Hid (E ++ cs.take (j + 1) = (E ++ cs.take j) ++ [cs[j]]) := Lib.hid (by rw [List.take_succ_eq_append_getElem hjl, List.append_assoc])
          have hElen2 : (E ++ cs.take j).length ≤ 200000000 := by
            rw [List.length_append, List.length_take]
            have : l.length * 100000 ≤ 100000000 := by omega
            have : (l.take i).length * 100000 ≤ l.length * 100000 := Nat.mul_le_mul_right _ (by rw [List.length_take]; omega)
            omega
          obtain ⟨⟨x1, x2⟩, hxd⟩ : ∃ x, x = cs[j] := ⟨_, rfl⟩
          rw [← hxd] at hc1 hc2 hx HT2
          clear hxd
          simp only at hc1 hc2 hx
          obtain ⟨hx0, hx1, hx2⟩ := hx
          generalize E ++ cs.take j = E' at *
          obtain ⟨D, hA0, hRd⟩ := HO.out
          have hA := hA0.alloc (.cells #[intC x1, intC x2] 133)
          have hBl := HB.out.alloc hszr (.cells #[intC x1, intC x2] 133)
          have HBL := Lib.hid hBl
          have HEA : Hid (SpansOf w4.heap.size (.slice (some ⟨b4, off4, none⟩) cs.length c') cs (wr.alloc (.cells #[intC x1, intC x2] 133))) := Lib.hid (HE.out.below (Below.alloc (Below.refl _ wr) (Nat.le_refl _) _) hsz4)
          have HRD := Lib.hid hRd
          have HBD1 : Hid (∀ c, D.atKey (.int .i64 x1) (.lit (.int .i64 0)) = .lit (.int .i64 c) → -200000000 ≤ c ∧ c ≤ 200000000) := Lib.hid fun c hc => by
            have := HRD.out.at_ hc
            have := chgE_bd E' x1
            omega
          have HBD2 : Hid (∀ c1 c2, D.atKey (.int .i64 x1) (.lit (.int .i64 0)) = .lit (.int .i64 c1) → (D.put (.int .i64 x1) (.lit (.int .i64 (c1 + 1)))).atKey (.int .i64 x2) (.lit (.int .i64 0)) = .lit (.int .i64 c2) → -200000000 ≤ c2 ∧ c2 ≤ 200000000) := Lib.hid fun c1 c2 _ hc => by
            have h := (HRD.out.put x1 (c1 + 1)).at_ hc
            simp only [if_neg (Int.ne_of_gt hx1)] at h
            have := chgE_bd E' x2
            omega
          have HBX : Hid ((wr.alloc (.cells #[intC x1, intC x2] 133)).cell? ⟨wr.heap.size, 1, none⟩ = some (intC x2)) := Lib.hid (cell_of_row _ _ 1 _ _ _ (World.alloc_heap_new wr _))
          have HMO : Hid (∀ r, some w.heap.size = some r → ∃ o : Obj, (wr.alloc (.cells #[intC x1, intC x2] 133)).heap[r]? = some o ∧ o.isCells = false) := Lib.hid fun r e => by
            obtain ⟨es', clock, hb, _⟩ := hA
            cases e
            exact ⟨_, hb, rfl⟩
          have HA := Lib.hid hA
          clear hBl hRd hA0 HO HB
          go_wp2_with (first
            | (at_lookup; refine wpList_lookup_own_int _ rfl _ _ 90 rfl 3 3 .i64 lawI Tryz.underlying90 Tryz.underlying3 (Tryz.zeroValue3 _) w.heap.size (2 + 2 * E'.length) D rfl hA _ _ rfl (keyI (a := x1) (by omega) (by omega)) ?_; intro c1 hat1 _; have HAT1 := Lib.hid hat1; have hb1 := HBD1.out _ hat1; clear hat1)
            | (at_mapUpdate; refine wpList_mapUpdate_own _ rfl _ _ _ 90 rfl 3 3 lawI Tryz.underlying90 _ w.heap.size (2 + 2 * E'.length) D rfl hA (by unfold maxLen; omega) _ (.int .i64 (c1 + 1)) _ rfl rfl (keyI (a := x1) (by omega) (by omega)) _ [] (elI_mk (a := c1 + 1) (by omega) (by omega)) ?_; intro wa hB hgB; have hbx := cell_kept HBX.out hgB HMO.out; have HGB := Lib.hid hgB; clear hA hgB)
            | (at_lookup; refine wpList_lookup_own_int _ rfl _ _ 90 rfl 3 3 .i64 lawI Tryz.underlying90 Tryz.underlying3 (Tryz.zeroValue3 _) w.heap.size (2 + 2 * E'.length + 1) _ rfl hB _ _ rfl (keyI (a := x2) (by omega) (by omega)) ?_; intro c2 hat2 _; have HAT2 := Lib.hid hat2; have hb2 := HBD2.out _ _ HAT1.out hat2; clear hat2)
            | (at_mapUpdate; refine wpList_mapUpdate_own _ rfl _ _ _ 90 rfl 3 3 lawI Tryz.underlying90 _ w.heap.size (2 + 2 * E'.length + 1) _ rfl hB (by unfold maxLen; omega) _ (.int .i64 (c2 - 1)) _ rfl rfl (keyI (a := x2) (by omega) (by omega)) _ [] (elI_mk (a := c2 - 1) (by omega) (by omega)) ?_; intro wb hC hgC; have HGC := Lib.hid hgC; have HC := Lib.hid hC; clear hC hgC))
          go_roundw
          case rel =>
            refine ⟨j + 1, by omega, by go_num, Lib.hid ?_, Lib.hid ?_, Lib.hid ?_, by have := HGB.out.size; have := HGC.out.size; simp at *; omega⟩
            · rw [HT2.out]
              refine ⟨_, ?_, HRD.out.span (x := (x1, x2)) (Int.ne_of_lt hx1) HAT1.out HAT2.out⟩
              rw [List.length_append]
              exact HC.out
            · exact edges_turn (edges_turn HEA.out HA.out HGB.out) hB HGC.out
            · exact (HBL.out.grown HGB.out (by simp; omega) (fun r e => by cases e; exact Nat.le_refl _)).grown HGC.out (by have := HGB.out.size; simp at this; omega) (fun r e => by cases e; exact Nat.le_refl _)
          case measure => simp [intOf]; omega
        · have hjj : j = cs.length := by omega
          subst hjj
          rw [List.take_length, ← HT.out] at HO
          go_wp2_with fail
          go_roundw
          case rel => exact ⟨i + 1, by omega, by go_num, HO, HB⟩
          case measure => simp [intOf]; omega
    · have hii : i = l.length := by omega
      subst hii
      rw [List.take_length] at HO hElen
      have hEl : (spansOf l).length ≤ 100000000 := by
        have := spansOf_len l 100000 HL.out
        have : l.length * 100000 ≤ 100000000 := by omega
        omega
      clear hElen hEl2 hlt
      obtain ⟨D, hA, hRd⟩ := HO.out
      have HA := Lib.hid hA
      have HRD := Lib.hid hRd
      have hsd := hA.size_le
      obtain ⟨j0, hj0, hj1, hj2, hj3⟩ := info_parts info_int1
      clear HO hRd
      go_wp2_with (first
        | (at_len; refine wpList_len_own _ rfl _ 90 rfl 3 3 Tryz.underlying90 _ w.heap.size (2 + 2 * (spansOf l).length) D rfl hA ?_)
        | (at_make; refine wpList_make_own _ rfl _ _ _ rfl w.heap.size 3 j0 _ _ Tryz.underlying79 hj0 hj1 hj2 .i64 .i64 _ (Maps.size D) (by rfl) (by rfl) rfl (by rw [hj3]; omega) (by unfold maxLen; omega) hszr ?_; intro wm hom hgm; have hB := hA.kept hgm (by simp); have HGM := Lib.hid hgm; have HOM := Lib.hid hom; clear hgm hom)
        | (at_range; refine wpList_range_own _ rfl _ _ rfl 3 3 lawI Tryz.underlying90 _ w.heap.size (2 + 2 * (spansOf l).length) D (by rfl) hB ?_; intro w0 hrg0 hg0 hs0; have HG0 := Lib.hid hg0; have HR0 := Lib.hid hrg0; have HS0 := Lib.hid hs0; clear hg0 hrg0 hs0))
      go_frame
      have HBm : Hid (Below w.heap.size w wm) := Lib.hid (HB.out.grown HGM.out hszr (fun j hj => by cases hj))
      have HB0 : Hid (Below w.heap.size w w0) := Lib.hid (HBm.out.grown HG0.out (by have := HGM.out.size; omega) (fun j hj => by cases hj))
      have hw0 : w.heap.size ≤ w0.heap.size := HB0.out.size
      have HGB0 : Hid (w.heap.size ≤ wm.heap.size) := Lib.hid HBm.out.size
      have HOW0 : Hid (w0.ownsRow w.heap.size 3 1 (.slice (some ⟨wr.heap.size, 0, none⟩) 0 (Maps.size D)) 0 []) := Lib.hid (HOM.out.kept HG0.out (.inr (by simp [Value.ownBlock])))
      clear HA hA hB HS0
      go_loopw [10] (fun o wx => ∃ (left : Lit → Bool) (cnt : Nat) (ks : List Int), Hid (wx.ranges Tryz.prog 3 (plainElem (H := Unit) Tryz.prog 3) w.heap.size wm.heap.size (2 + 2 * (spansOf l).length) D left cnt) ∧ Hid (CollI D left ks) ∧ ks.length + cnt ≤ Maps.size D ∧ Hid (wx.ownsRow w.heap.size 3 1 o ks.length (ks.map intC)) ∧ Hid (Below w.heap.size w wx)) (fun _ wx => wx.rangeLeft w.heap.size wm.heap.size)
      case atStart => exact ⟨_, _, [], HR0, Lib.hid (CollI.start D), by simp, HOW0, HB0⟩
      case round =>
        clear HR0 HOW0 HB0 HBm HB HGM HOM HG0 hszr hw0
        obtain ⟨left, cnt, ks, HR, HC, hcnt, HO, HB⟩ := hrel
        have hszr := HB.out.size
        go_wp2_with (at_next; refine wpList_next_ranges_ii _ rfl _ rfl 3 3 .i64 .i64 lawI Tryz.underlying3 Tryz.underlying3 w.heap.size wm.heap.size _ _ _ _ (by rfl) HR.out ?_ ?_)
        rotate_left
        · intro x c w5 cnt1 _ _ hlx hat hrg1 hlt1 hg1 hs1 hen
          have hor := ranges_obj HR.out
          have hO5 : w5.ownsRow w.heap.size 3 1 u10 ks.length (ks.map intC) := HO.out.kept hg1 (by obtain ⟨o, h1, h2⟩ := hor.2; exact .inr (Ne.symm (own_ne_obj HO.out h1 h2)))
          have hB5 : Below w.heap.size w w5 := HB.out.grown hg1 hszr (fun j hj => by cases hj; have := HGB0.out; omega)
          have HO5 := Lib.hid hO5
          have HB5 := Lib.hid hB5
          have hz5 := hB5.size
          have HR5 := Lib.hid hrg1
          have HC5 := Lib.hid (HC.out.step hlx hat)
          have HLE : Hid (w5.rangeLeft w.heap.size wm.heap.size = cnt1) := Lib.hid hrg1.left_eq
          have HLW : Hid (wr.rangeLeft w.heap.size wm.heap.size = cnt) := Lib.hid HR.out.left_eq
          have HNX : Hid (∀ W1, (w5.alloc (.cells #[intC x] 3)).grownBy W1 u10.ownBlock → (∃ left', W1.ranges Tryz.prog 3 (plainElem (H := Unit) Tryz.prog 3) w.heap.size wm.heap.size (2 + 2 * (spansOf l).length) D left' cnt1 ∧ CollI D left' (ks ++ [x])) ∧ Below w.heap.size w W1 ∧ W1.rangeLeft w.heap.size wm.heap.size = cnt1) := Lib.hid fun W1 hg => by
            have ho := ranges_obj HR5.out
            have hr := (HR5.out.alloc (.cells #[intC x] 3)).kept hg (by obtain ⟨o, h1, h2⟩ := ho.1; exact own_ne_obj HO5.out h1 h2) (by obtain ⟨o, h1, h2⟩ := ho.2; exact own_ne_obj HO5.out h1 h2)
            exact ⟨⟨_, hr, HC5.out⟩, (HB5.out.alloc hz5 _).grown hg (by simp; omega) (fun b hb => (HO5.out.lt b hb).1), hr.left_eq⟩
          clear hs1 hat hlx hg1 hrg1 hor hO5 hB5
          go_wp2_with (at_builtin; refine wpList_append_own _ rfl _ _ 79 rfl w.heap.size 3 j0 _ 1 8 Tryz.underlying79 hj0 hj1 hj2 hj3 rfl (by decide) u10 ks.length _ (by rfl) (HO5.out.alloc _) ⟨w5.heap.size, 0, none⟩ 1 1 [intC x] (by rfl) (by rfl) (World.news_of_block (cs := #[intC x]) (t := 3) (fr := (0, 0)) (heap_alloc_new w5 _)) (by simp [Value.oneCell']) (by unfold maxLen; omega) (by omega) (by simp; omega) ?_; intro v' w6 hown' hgrow _; obtain ⟨⟨left', hr6, hc6⟩, hb6, hl6⟩ := HNX.out _ hgrow; have HOW6 := Lib.hid hown'; have HR6 := Lib.hid hr6; have HC6 := Lib.hid hc6; have HB6 := Lib.hid hb6; have HL6 := Lib.hid hl6; clear hown' hgrow hr6 hc6 hb6 hl6; obtain ⟨gg, cap, rfl⟩ := ownsRow_succ HOW6.out)
          go_roundw
          case rel =>
            refine ⟨left', cnt1, ks ++ [x], HR6, HC6, by simp; omega, Lib.hid ?_, HB6⟩
            rw [List.length_append, List.map_append]
            exact HOW6.out
          case measure => rw [HL6.out, HLW.out]; exact hlt1
        · intro hc0 hl0
          have hmem : ∀ q, q ∈ ks ↔ keyE (spansOf l) q := fun q => by
            rw [HC.out.2, HRD.out.2.2, hl0]
            exact ⟨fun h => h.1, fun h => ⟨h, rfl⟩⟩
          have hperm := List.mergeSort_perm ks leI
          have hbs : ks.mergeSort leI = boundsE (spansOf l) := bounds_eq (strict_of (sorted_leI ks) (hperm.nodup_iff.2 HC.out.1)) fun q => by
            rw [hperm.mem_iff, hmem]
            rfl
          have hkl : ks.length = (boundsE (spansOf l)).length := by rw [← hbs, List.length_mergeSort]
          have h2 := boundsE_two (spansOf l)
          have hsort := sort_row w.heap.size u10 ks wr HO.out (by omega)
          change Calls _ _ _ _ (fun e w' => _ ∧ _ ∧ w'.ownsRow _ _ _ _ (ks.mergeSort leI).length ((ks.mergeSort leI).map intC)) at hsort
          rw [hbs] at hsort
          obtain ⟨gb, capb, rfl, hgb, hgb2, hcb⟩ := own_shape HO.out (by omega)
          have hm7 : ∀ w', wr.grownBy w' (some gb) → w'.ownsMap Tryz.prog 3 (plainElem (H := Unit) Tryz.prog 3) w.heap.size (2 + 2 * (spansOf l).length) D ∧ Below w.heap.size w w' := fun w' hg => by
            have ho := ranges_obj HR.out
            exact ⟨HR.out.owns.kept hg (by obtain ⟨o, h1, h2⟩ := ho.1; exact own_ne_obj HO.out h1 h2), HB.out.grown hg hszr (fun j hj => by cases hj; exact hgb)⟩
          have HM7 := Lib.hid hm7
          have HSO := Lib.hid hsort
          have HEX : Hid (∀ x ∈ spansOf l, 0 ≤ x.1 ∧ x.1 < x.2 ∧ x.2 ≤ 1000000) := Lib.hid fun x hx => spansOf_mem hx
          have HKL := Lib.hid hkl
          obtain ⟨n, hn⟩ : ∃ n, n = ks.length := ⟨_, rfl⟩
          rw [← hn] at HKL HSO hcnt
          rw [← hn]
          have HN := Lib.hid hn
          have hn2 : 2 ≤ n := by omega
          have hn3 : n ≤ 300000000 := by omega
          clear hm7 hsort hkl hmem hperm hbs hl0 HR HO HB HC hn
          go_wp2_with fail
          refine HSO.out.mono ?_
          rintro e w7 ⟨rfl, hg7, ho7⟩
          obtain ⟨hA7, hb7⟩ := HM7.out w7 hg7
          have HA7 := Lib.hid hA7
          have HB7 := Lib.hid hb7
          have HO7 : Hid (w7.ownsRow w.heap.size 3 1 (.slice (some ⟨gb, 0, none⟩) n capb) n ((boundsE (spansOf l)).map intC)) := Lib.hid (by rw [HKL.out] at ho7 ⊢; exact ho7)
          clear hg7 ho7 hA7 hb7 HSO HM7
          go_wp2_with fail
          obtain ⟨k0, hk0, hk1, hk2, hk3⟩ := info_parts info_spans
          go_loopw [12, 13, 60] (fun o cnt p wx => ∃ i : Nat, i + 1 ≤ n ∧ p = .int .i64 i ∧ cnt = .int .i64 (runC (spansOf l) (boundsE (spansOf l)) i) ∧ Hid (wx.ownsRow w.heap.size 133 2 o (outC keep (spansOf l) (boundsE (spansOf l)) i).length (spanCells (outC keep (spansOf l) (boundsE (spansOf l)) i))) ∧ Hid (wx.ownsMap Tryz.prog 3 (plainElem (H := Unit) Tryz.prog 3) w.heap.size (2 + 2 * (spansOf l).length) D) ∧ Hid (wx.ownsRow w.heap.size 3 1 (.slice (some ⟨gb, 0, none⟩) n capb) n ((boundsE (spansOf l)).map intC)) ∧ Hid (Below w.heap.size w wx)) (fun _ _ p _ => n - (intOf p).toNat)
          case atStart => exact ⟨0, by omega, rfl, rfl, Lib.hid (World.ownsRow_nil _ _ _ _), HA7, HO7, HB7⟩
          case round =>
            clear HA7 HO7 HB7 HN
            obtain ⟨i, hi, rfl, rfl, HO, HA, HOB, HB⟩ := hrel
            have hszr := HB.out.size
            by_cases hil : i + 1 < n
            · have hib : i + 1 < (boundsE (spansOf l)).length := by have := HKL.out; omega
              have hrc := runC_bd (spansOf l) HEX.out i (by omega)
              have hrc1 := runC_bd (spansOf l) HEX.out (i + 1) (by omega)
              have hrs := runC_succ (spansOf l) (boundsE (spansOf l)) i (by omega)
              have hbi := boundsE_bd (spansOf l) HEX.out _ (List.getElem_mem (show i < (boundsE (spansOf l)).length by omega))
              have hcell0 := own_cell HOB.out i (intC ((boundsE (spansOf l))[i])) (by simp [show i < (boundsE (spansOf l)).length by omega])
              have hcell1 := own_cell HOB.out (i + 1) (intC ((boundsE (spansOf l))[i + 1])) (by simp [hib])
              have HT : Hid (outC keep (spansOf l) (boundsE (spansOf l)) (i + 1) = if keep (runC (spansOf l) (boundsE (spansOf l)) (i + 1)) = true then outC keep (spansOf l) (boundsE (spansOf l)) i ++ [((boundsE (spansOf l))[i], (boundsE (spansOf l))[i + 1])] else outC keep (spansOf l) (boundsE (spansOf l)) i) := Lib.hid (by rw [outC_succ]; simp [hib, show i < (boundsE (spansOf l)).length by omega])
              have hol := outC_len keep (spansOf l) (boundsE (spansOf l)) i
              have HCE : Hid (∀ c, D.atKey (.int .i64 (boundsE (spansOf l))[i]) (.lit (.int .i64 0)) = .lit (.int .i64 c) → c = chgE (spansOf l) (boundsE (spansOf l))[i]) := Lib.hid fun c hc => HRD.out.at_ hc
              have HRS := Lib.hid hrs
              clear hrs
              have HX0 : Hid (((boundsE (spansOf l)).map intC)[i]? = some (intC (boundsE (spansOf l))[i])) := Lib.hid (by simp [show i < (boundsE (spansOf l)).length by omega])
              have HX1 : Hid (((boundsE (spansOf l)).map intC)[i + 1]? = some (intC (boundsE (spansOf l))[i + 1])) := Lib.hid (by simp [hib])
              generalize hbi0 : (boundsE (spansOf l))[i] = b0 at *
              generalize hbi1 : (boundsE (spansOf l))[i + 1] = b1 at *
              generalize chgE (spansOf l) b0 = ce at *
              obtain ⟨rc, hrcd⟩ : ∃ rc, rc = runC (spansOf l) (boundsE (spansOf l)) i := ⟨_, rfl⟩
              rw [← hrcd] at hrc HRS ⊢
              rw [HRS.out] at hrc1 HT
              have hkp := HK.out wr (rc + ce) HB.out
              have HRC := Lib.hid hrcd
              have hA := HA.out
              clear hrcd hbi0 hbi1
              cases hq : keep (rc + ce) with
              | true =>
                rw [hq] at hkp HT
                have HKP := Lib.hid hkp
                clear hq hkp
                go_wp2_with (at_lookup; refine wpList_lookup_own_int _ rfl _ _ 90 rfl 3 3 .i64 lawI Tryz.underlying90 Tryz.underlying3 (Tryz.zeroValue3 _) w.heap.size (2 + 2 * (spansOf l).length) D (by rfl) hA _ _ rfl (keyI (a := b0) (by omega) (by omega)) ?_; intro c hat _; obtain rfl := HCE.out _ hat; clear hat)
                refine HKP.out.mono ?_
                rintro e w' ⟨rfl, rfl⟩
                have hi1 : IntKind.i64.wrap ((i : Int) + 1) = (i : Int) + 1 := IntWalk.i64_in _ (by omega)
                have hi5 : i < n := by omega
                have hi2 : (0 : Int) ≤ (i : Int) + 1 := by omega
                have hi3 : (i : Int) + 1 < (n : Int) := by omega
                have hi4 : ((i : Int) + 1).toNat = i + 1 := by omega
                have HS0 : Hid (HeldC ⟨gb, i, none⟩ ⟨gb, i + 1, none⟩ (intC b0) (intC b1) wr.drew) := Lib.hid ⟨hcell0, hcell1⟩
                have HS1 : Hid (HeldC ⟨gb, i, none⟩ ⟨gb, i + 1, none⟩ (intC b0) (intC b1) (wr.drew.alloc (.cells #[intC b0, intC b1] 133))) := Lib.hid ⟨cellA _ hcell0, cellA _ hcell1⟩
                have HNX : Hid (∀ W1, ((wr.alloc (.cells #[intC b0, intC b1] 133)).drew).grownBy W1 u12.ownBlock → HeldC ⟨gb, i, none⟩ ⟨gb, i + 1, none⟩ (intC b0) (intC b1) W1 ∧ W1.ownsMap Tryz.prog 3 (plainElem (H := Unit) Tryz.prog 3) w.heap.size (2 + 2 * (spansOf l).length) D ∧ W1.ownsRow w.heap.size 3 1 (.slice (some ⟨gb, 0, none⟩) n capb) n ((boundsE (spansOf l)).map intC) ∧ Below w.heap.size w W1) := Lib.hid fun W1 hg => by
                  have hob : W1.ownsRow w.heap.size 3 1 (.slice (some ⟨gb, 0, none⟩) n capb) n ((boundsE (spansOf l)).map intC) := ((HOB.out.alloc (.cells #[intC b0, intC b1] 133)).drew).kept hg (own_ne ((HOB.out.alloc (.cells #[intC b0, intC b1] 133)).drew) ((HO.out.alloc (.cells #[intC b0, intC b1] 133)).drew) (by decide))
                  refine ⟨⟨own_cell hob i _ HX0.out, own_cell hob (i + 1) _ HX1.out⟩, ?_, hob, ((HB.out.alloc hszr _).drew).grown hg (by simp; omega) (fun b hb => (HO.out.lt b hb).1)⟩
                  refine ((HA.out.alloc (.cells #[intC b0, intC b1] 133)).drew).kept hg ?_
                  obtain ⟨es', clock, hb, _⟩ := (HA.out.alloc (.cells #[intC b0, intC b1] 133)).drew
                  exact own_ne_obj ((HO.out.alloc (.cells #[intC b0, intC b1] 133)).drew) hb rfl
                clear hcell0 hcell1
                go_wp2_with fail
                refine wp_region_noPanic ?_
                refine region_plain_split (S := HeldC ⟨gb, i, none⟩ ⟨gb, i + 1, none⟩ (intC b0) (intC b1)) 13 (by kernel_rfl) (by kernel_rfl) ?_
                simp only [List.take_succ_cons, List.take_zero]
                have hS0 := HS0.out
                (refine zl3 0 ?_ rfl ?_ ?_; rotate_left; (· (rintro w ⟨c0, c1⟩; go_simp; try with_reducible rfl)); (try simp only [zl1]))
                (refine zl3 1 ?_ rfl ?_ ?_; rotate_left; (· (rintro w ⟨c0, c1⟩; go_simp; try with_reducible rfl)); (try simp only [zl1]))
                (refine zl3 2 ?_ rfl ?_ ?_; rotate_left; (· (rintro w ⟨c0, c1⟩; go_simp; try with_reducible rfl)); (try simp only [zl1]))
                (refine zl3 3 ?_ rfl ?_ ?_; rotate_left; (· (rintro w ⟨c0, c1⟩; go_simp; try with_reducible rfl)); (try simp only [zl1]))
                (refine zl3 4 ?_ rfl ?_ ?_; rotate_left; (· (rintro w ⟨c0, c1⟩; go_simp; try with_reducible rfl)); (try simp only [zl1]))
                (refine zl3 5 ?_ rfl ?_ ?_; rotate_left; (· (rintro w ⟨c0, c1⟩; go_simp; try with_reducible rfl)); (try simp only [zl1]))
                (refine zl3 6 ?_ rfl ?_ ?_; rotate_left; (· (rintro w ⟨c0, c1⟩; go_simp; try with_reducible rfl)); (try simp only [zl1]))
                (refine zl3 7 ?_ rfl ?_ ?_; rotate_left; (· (rintro w ⟨c0, c1⟩; go_simp; try with_reducible rfl)); (try simp only [zl1]))
                (refine zl3 8 ?_ rfl ?_ ?_; rotate_left; (· (rintro w ⟨c0, c1⟩; go_simp; try with_reducible rfl)); (try simp only [zl1]))
                (refine zl3 9 ?_ rfl ?_ ?_; rotate_left; (· (rintro w ⟨c0, c1⟩; go_simp; try with_reducible rfl)); (try simp only [zl1]))
                (refine zl3 10 ?_ rfl ?_ ?_; rotate_left; (· (rintro w ⟨c0, c1⟩; go_simp; try with_reducible rfl)); (try simp only [zl1]))
                refine wpAnyH_ready (rs := [11]) (by kernel_rfl) (by simp) (AllReadyH.cons rfl (fun K hK => ?_) AllReadyH.nil)
                go_simp
                refine hK.out _ _ HS1.out (fun _ => ?_)
                clear hK K hS0
                (try simp only [zl1])
                refine wpAnyH_ready (rs := [12]) (by kernel_rfl) (by simp) (AllReadyH.cons rfl (fun K hK => ?_) AllReadyH.nil)
                refine step_append_lies _ (by rfl) _ _ _ (by rfl) w.heap.size 133 k0 _ 2 16 Tryz.underlying56 hk0 hk1 hk2 hk3 rfl (by decide) u12 (outC keep (spansOf l) (boundsE (spansOf l)) i).length _ (by rfl) ((HO.out.alloc _).drew)
                      ⟨wr.heap.size, 0, none⟩ 1 1 [intC b0, intC b1] (by rfl) (by rfl) (World.news_of_block (cs := #[intC b0, intC b1]) (t := 133) (fr := (0, 0)) (heap_alloc_new wr _)) (by simp [Value.oneCell'])
                      (by decide) (by unfold maxLen; omega) (by omega) (by simp; omega) (wr.heap.size + 1) (by simp) ?_
                intro gg cap w5 hown5 hgrow5 _ _
                obtain ⟨hS5, hA5, hob5, hb5⟩ := HNX.out _ hgrow5
                have HA5 := Lib.hid hA5
                have HOB5 := Lib.hid hob5
                have HB5 := Lib.hid hb5
                have HOW5 := Lib.hid hown5
                refine hK.out _ _ hS5 (fun _ => ?_)
                clear hK K hS5 hA5 hob5 hb5 hown5 hgrow5
                (try simp only [zl1])
                refine wpAnyH_done (by kernel_rfl) ?_ _
                show wpList _ _ _ _ _ _
                simp only [List.drop_succ_cons, List.drop_zero]
                go_wp2_with fail
                refine NoPanic.normal ?_
                all_goals go_wp2_with fail
                all_goals
                  go_roundw
                  case rel =>
                    refine ⟨i + 1, by omega, by go_num, by rw [HRS.out], Lib.hid ?_, HA5, HOB5, HB5⟩
                    rw [HT.out]; simp only [if_true]; rw [spanCells_snoc, List.length_append, List.length_singleton]
                    exact HOW5.out
                  case measure => simp [intOf]; omega
              | false =>
                rw [hq] at hkp HT
                have HKP := Lib.hid hkp
                clear hq hkp
                go_wp2_with (at_lookup; refine wpList_lookup_own_int _ rfl _ _ 90 rfl 3 3 .i64 lawI Tryz.underlying90 Tryz.underlying3 (Tryz.zeroValue3 _) w.heap.size (2 + 2 * (spansOf l).length) D (by rfl) hA _ _ rfl (keyI (a := b0) (by omega) (by omega)) ?_; intro c hat _; obtain rfl := HCE.out _ hat; clear hat)
                refine HKP.out.mono ?_
                rintro e w' ⟨rfl, rfl⟩
                go_wp2_with fail
                go_roundw
                case rel =>
                  refine ⟨i + 1, by omega, by go_num, by rw [HRS.out], Lib.hid ?_, HA, HOB, HB⟩
                  rw [HT.out]
                  exact HO.out
                case measure => simp [intOf]; omega
            · have hin : i + 1 = n := by omega
              have hib : i = (boundsE (spansOf l)).length - 1 := by have := HKL.out; omega
              have HIB := Lib.hid hib
              have hol := outC_len keep (spansOf l) (boundsE (spansOf l)) i
              have hcan := Canonical_any u12 (outC keep (spansOf l) (boundsE (spansOf l)) i) wr (by omega) (own_spans HO.out)
              have HCAN := Lib.hid hcan
              clear hcan hib
              go_wp2_with fail
              refine HCAN.out.mono ?_
              rintro e w8 ⟨v8, rfl, hE8, hb8⟩
              have HE8 := Lib.hid hE8
              have HB8 := Lib.hid (HB.out.trans (hb8.mono hszr))
              clear hE8 hb8
              go_wp2_with fail
              go_ret
              refine ⟨_, rfl, ?_, HB8.out⟩
              unfold combS
              rw [← HIB.out]
              exact HE8.out
end Go.Proofs.YtenfkejbndifdaaGreatDoor

namespace Go.Proofs.YtenfkejbndifdaaGreatDoor
set_option linter.unusedVariables false
set_option linter.unusedSimpArgs false
open Go Go.RowKit

theorem allCl_any (B : Nat) (ao : Option Addr) (k c : Nat) (n : Int) (W : World) (hc : W.cell? ⟨B, 0, none⟩ = some (.slice ao k c)) :
    Calls Tryz.prog 127 (#[.int .i64 n] ++ #[.pointer (some ⟨B, 0, none⟩)]) W fun e w' => e = .returned (.bool (decide (n = (k : Int)))) ∧ W = w' := by
  show Calls _ _ #[.int .i64 n, .pointer (some ⟨B, 0, none⟩)] _ _
  go_enter Tryz.func127, Tryz.ntmps127
  go_wp2
  go_ret
  exact ⟨rfl, rfl⟩
set_option maxRecDepth 100000 in
theorem Intersect_any (v : Value) (l : List (List (Int × Int))) (w : World) (hl : l.length ≤ 1000) (hs : ∀ s ∈ l, s.length ≤ 100000) (hS : SetsOf w.heap.size v l w) :
    Calls Tryz.prog 80 #[v] w fun e w' => ∃ v', e = .returned v' ∧ SpansOf w'.heap.size v' (interS l) w' ∧ Below w.heap.size w w' := by
  have hb0 : Below w.heap.size w (w.alloc (.cells #[v] 119)) := (Below.refl _ _).alloc (Nat.le_refl _) _
  have hS' := (hS.below hb0 (Nat.le_refl _)).mono (show w.heap.size ≤ (w.alloc (.cells #[v] 119)).heap.size by simp)
  obtain ⟨ao, ec, rfl, _⟩ := hS
  have HC := Lib.hid (combine_any 127 #[.pointer (some ⟨w.heap.size, 0, none⟩)] (fun n => decide (n = (l.length : Int))) (.slice ao l.length ec) l (w.alloc (.cells #[.slice ao l.length ec] 119)) (enters_of Tryz.func127 (by kernel_rfl) rfl)
    (fun W n hW => allCl_any w.heap.size ao l.length ec n W (by rw [hW.cell (p := ⟨w.heap.size, 0, none⟩) (by simp)]; simp [go_sem])) hl hs hS')
  change Hid (Calls _ _ _ _ fun e w' => ∃ v', _ ∧ SpansOf _ _ (interS l) _ ∧ _) at HC
  have HB0 := Lib.hid hb0
  generalize interS l = r at *
  clear hs hb0 hS'
  go_enter Tryz.func80, Tryz.ntmps80
  go_wp2_with fail
  (with_reducible refine HC.out.mono ?_)
  rintro e w' ⟨v', rfl, hE', hb⟩
  have HE := Lib.hid hE'
  have HB := Lib.hid hb
  clear hE' hb
  go_wp2_with fail
  go_ret
  exact ⟨_, rfl, HE.out, HB0.out.trans (HB.out.mono (by simp))⟩
end Go.Proofs.YtenfkejbndifdaaGreatDoor

namespace Go.Proofs.YtenfkejbndifdaaGreatDoor
set_option linter.unusedVariables false
set_option linter.unusedSimpArgs false
open Go Go.RowKit Go.Maps

def SetsF (out : List ReqL) (rv : ByteArray → Value) (f : Lit → Option Value) : Prop := (∀ p : ByteArray, f (keyP p) = (lookM out p).map fun _ => rv p) ∧ ∀ q, (∀ p : ByteArray, q ≠ keyP p) → f q = none
theorem SetsF.start (rv : ByteArray → Value) : SetsF [] rv (fun _ => none) := ⟨fun _ => rfl, fun _ _ => rfl⟩
open Classical in
noncomputable def putV (rv : ByteArray → Value) (p : ByteArray) (r : Value) : ByteArray → Value := fun x => if x = p then r else rv x
theorem putV_same (rv : ByteArray → Value) (p : ByteArray) (r : Value) : putV rv p r p = r := by unfold putV; exact if_pos rfl
theorem putV_other (rv : ByteArray → Value) {p x : ByteArray} (r : Value) (h : x ≠ p) : putV rv p r x = rv x := by unfold putV; exact if_neg h
theorem SetsF.put {out : List ReqL} {rv : ByteArray → Value} {f : Lit → Option Value} (h : SetsF out rv f) (ho : incrR out) (q : ReqL) (r : Value) : SetsF (insM out q) (putV rv q.1 r) (putF f (.string q.1.data.toList) r) := by
  refine ⟨fun p => ?_, fun k hk => ?_⟩
  · rw [insM_look q p ho]
    by_cases e : p = q.1
    · subst e
      rw [if_pos rfl, show keyP q.1 = Lit.string q.1.data.toList from rfl, putF_same, putV_same]
      rfl
    · rw [if_neg e, putV_other _ _ e]
      show putF f (keyP q.1) r (keyP p) = _
      rw [putF_other _ _ (fun e2 => e (keyP_inj e2)), h.1]
  · have hne : k ≠ .string q.1.data.toList := fun e => hk q.1 e
    rw [putF_other _ _ hne]
    exact h.2 k hk
def keysM (out : List ReqL) : List Lit := out.map fun x => keyP x.1
theorem keysM_nodup {out : List ReqL} (ho : incrR out) : (keysM out).Nodup := by
  unfold keysM List.Nodup
  rw [List.pairwise_map]
  exact List.Pairwise.imp (fun {a b} h e => ltB_ne h (keyP_inj e)) ho
theorem keysM_iff {out : List ReqL} {rv : ByteArray → Value} {f : Lit → Option Value} (h : SetsF out rv f) (q : Lit) : q ∈ keysM out ↔ (f q).isSome = true := by
  unfold keysM
  rw [List.mem_map]
  constructor
  · rintro ⟨x, hx, rfl⟩
    rw [h.1, Option.isSome_map]
    cases hl : lookM out x.1 with
    | some s => rfl
    | none => exact absurd rfl (lookM_none.1 hl x hx)
  · intro hs
    by_cases e : ∃ p : ByteArray, q = keyP p
    · obtain ⟨p, rfl⟩ := e
      rw [h.1, Option.isSome_map] at hs
      apply Classical.byContradiction
      intro hn
      rw [lookM_none.2 fun x hx e => hn ⟨x, hx, by rw [e]⟩] at hs
      cases hs
    · rw [h.2 q fun p e2 => e ⟨p, e2⟩] at hs
      cases hs
def CollQ (f : Lit → Option Value) (left : Lit → Bool) (l : List RawQ) : Prop := (l.map (·.1)).Nodup ∧ (∀ x ∈ l, f (keyP x.1) = some (slV x.2) ∧ left (keyP x.1) = false) ∧ ∀ p, (f (keyP p)).isSome = true → left (keyP p) = false → ∃ x ∈ l, x.1 = p
theorem CollQ.start (f : Lit → Option Value) : CollQ f (fun q => (f q).isSome) [] := ⟨List.nodup_nil, fun x hx => (by cases hx), fun p h1 h2 => by have h2 : (f (keyP p)).isSome = false := h2; rw [h1] at h2; cases h2⟩
theorem CollQ.step {f : Lit → Option Value} {left : Lit → Bool} {l : List RawQ} (h : CollQ f left l) {x : RawQ} (hf : f (keyP x.1) = some (slV x.2)) (hl : left (keyP x.1) = true) : CollQ f (fun z => left z && !z.sameKey (keyP x.1)) (l ++ [x]) := by
  obtain ⟨h1, h2, h3⟩ := h
  have hnew : x.1 ∉ l.map (·.1) := fun hm => by
    obtain ⟨y, hy, e⟩ := List.mem_map.1 hm
    have e : y.1 = x.1 := e
    have := (h2 y hy).2
    rw [e, hl] at this
    cases this
  refine ⟨?_, fun y hy => ?_, fun p hp hq => ?_⟩
  · rw [List.map_append]
    exact List.nodup_append.2 ⟨h1, by simp, fun a ha b hb => by simp at hb; subst hb; exact fun e => hnew (e ▸ ha)⟩
  · rcases List.mem_append.1 hy with hy | hy
    · obtain ⟨a, b⟩ := h2 y hy
      exact ⟨a, by show (left (keyP y.1) && _) = false; rw [b]; rfl⟩
    · rw [List.mem_singleton.1 hy]
      exact ⟨hf, by simp [keyP, Lit.sameKey]⟩
  · by_cases e : p = x.1
    · exact ⟨x, by simp, e.symm⟩
    · have : (keyP p).sameKey (keyP x.1) = false := by
        cases hs : (keyP p).sameKey (keyP x.1) with
        | false => rfl
        | true => exact absurd (keyP_inj (WideAt.sameKey_eq hs)) e
      have hq : (left (keyP p) && !(keyP p).sameKey (keyP x.1)) = false := hq
      rw [this] at hq
      obtain ⟨y, hy, e2⟩ := h3 p hp (by simpa using hq)
      exact ⟨y, by simp [hy], e2⟩
theorem CollQ.len {out : List ReqL} {rv : ByteArray → Value} {f : Lit → Option Value} {left : Lit → Bool} {l : List RawQ} (h : CollQ f left l) (hf : SetsF out rv f) : l.length ≤ out.length := by
  have := sub_length (l := l.map (·.1)) (m := out.map (·.1)) h.1 fun p hp => by
    obtain ⟨x, hx, rfl⟩ := List.mem_map.1 hp
    have h1 := (h.2.1 x hx).1
    rw [hf.1] at h1
    obtain ⟨s, hs, _⟩ := Option.map_eq_some_iff.1 h1
    apply Classical.byContradiction
    intro hn
    rw [lookM_none.2 fun y hy e => hn (List.mem_map.2 ⟨y, hy, e⟩)] at hs
    cases hs
  simpa using this
theorem CollQ.done {out : List ReqL} {rv : ByteArray → Value} {f : Lit → Option Value} {left : Lit → Bool} {l l' : List RawQ} (h : CollQ f left l) (hf : SetsF out rv f) (ho : incrR out) (hl : ∀ q, left q = false) (hp : l'.Perm l) (hs : l'.Pairwise (fun a b => ltB b.1 a.1 = false)) :
    l'.map (·.1) = out.map (·.1) ∧ ∀ x ∈ l', rv x.1 = slV x.2 := by
  obtain ⟨h1, h2, h3⟩ := h
  have hval : ∀ x ∈ l', rv x.1 = slV x.2 := fun x hx => by
    have e := (h2 x (hp.mem_iff.1 hx)).1
    rw [hf.1] at e
    obtain ⟨s, _, e⟩ := Option.map_eq_some_iff.1 e
    exact e
  refine ⟨?_, hval⟩
  have hn : (l'.map (·.1)).Nodup := (hp.map _).nodup_iff.2 h1
  have hno : (out.map (·.1)).Nodup := by
    unfold List.Nodup
    rw [List.pairwise_map]
    exact List.Pairwise.imp (fun {a b} h e => ltB_ne h e) ho
  have hmem : ∀ p, p ∈ l'.map (·.1) ↔ p ∈ out.map (·.1) := fun p => by
    constructor
    · intro hm
      obtain ⟨x, hx, rfl⟩ := List.mem_map.1 hm
      have e := (h2 x (hp.mem_iff.1 hx)).1
      rw [hf.1] at e
      obtain ⟨s, hs2, _⟩ := Option.map_eq_some_iff.1 e
      apply Classical.byContradiction
      intro hn
      rw [lookM_none.2 fun y hy e => hn (List.mem_map.2 ⟨y, hy, e⟩)] at hs2
      cases hs2
    · intro hm
      obtain ⟨y, hy, rfl⟩ := List.mem_map.1 hm
      have hsome : (f (keyP y.1)).isSome = true := by
        rw [hf.1, Option.isSome_map]
        cases hlk : lookM out y.1 with
        | some s => rfl
        | none => exact absurd rfl (lookM_none.1 hlk y hy)
      obtain ⟨x, hx, e⟩ := h3 y.1 hsome (hl _)
      exact List.mem_map.2 ⟨x, hp.mem_iff.2 hx, e⟩
  refine List.Perm.eq_of_pairwise (le := fun a b : ByteArray => ltB b a = false) (fun a b _ _ h1 h2 => ltB_tri h2 h1) ?_ ?_ ((List.perm_ext_iff_of_nodup hn hno).2 hmem)
  · rw [List.pairwise_map]
    exact hs
  · rw [List.pairwise_map]
    exact List.Pairwise.imp (fun {a b} h => ltB_asymm h) ho
theorem CollQ.row {out : List ReqL} {rv : ByteArray → Value} {l' : List RawQ} (hm : l'.map (·.1) = out.map (·.1)) (hv : ∀ x ∈ l', rv x.1 = slV x.2) {B : Nat} {W : World} (hS : ∀ x ∈ out, SpansOf B (rv x.1) x.2 W) : ReqXs B out (rawCells l') W := fun i q hq => by
  have hlen : l'.length = out.length := by have := congrArg List.length hm; simpa using this
  have hi := (List.getElem?_eq_some_iff.1 hq).1
  obtain ⟨x, hx⟩ : ∃ x, l'[i]? = some x := ⟨_, List.getElem?_eq_getElem (by omega)⟩
  have hx1 : x.1 = q.1 := by
    have h1 := congrArg (fun z => z[i]?) hm
    simp only [List.getElem?_map, hx, hq, Option.map_some] at h1
    exact Option.some.inj h1
  obtain ⟨a, b⟩ := rawCells_get hx
  have hr := hS q (List.mem_of_getElem? hq)
  rw [← hx1, hv x (List.mem_of_getElem? hx)] at hr
  exact ⟨slV x.2, by rw [← hx1]; exact a, b, hr⟩
def ListsOf (B : Nat) (v : Value) (ls : List (List ReqL)) (W : World) : Prop :=
  ∃ ao cap, v = .slice ao ls.length cap ∧ ∀ i l, ls[i]? = some l → ∃ b off r, ao = some ⟨b, off, none⟩ ∧ b < B ∧ W.cell? ⟨b, off + i, none⟩ = some r ∧ ReqsOf B r l W
theorem ListsOf.below {B B' : Nat} {v : Value} {ls : List (List ReqL)} {W W' : World} (h : ListsOf B v ls W) (hb : Below B' W W') (hB : B ≤ B') : ListsOf B v ls W' := by
  obtain ⟨ao, cap, rfl, h⟩ := h
  refine ⟨ao, cap, rfl, fun i l hl => ?_⟩
  obtain ⟨b, off, r, rfl, hlt, h1, h2⟩ := h i l hl
  exact ⟨b, off, r, rfl, hlt, (hb.cell (p := ⟨b, off + i, none⟩) (Nat.lt_of_lt_of_le hlt hB)).trans h1, h2.below hb hB⟩
theorem ListsOf.mono {B B' : Nat} {v : Value} {ls : List (List ReqL)} {W : World} (h : ListsOf B v ls W) (hB : B ≤ B') : ListsOf B' v ls W := by
  obtain ⟨ao, cap, rfl, h⟩ := h
  refine ⟨ao, cap, rfl, fun i l hl => ?_⟩
  obtain ⟨b, off, r, rfl, hlt, h1, h2⟩ := h i l hl
  exact ⟨b, off, r, rfl, Nat.lt_of_lt_of_le hlt hB, h1, h2.mono hB⟩
theorem ListsOf.on {w w' : World} {v : Value} {ls : List (List ReqL)} (h : ListsOf w.heap.size v ls w) (hb : Below w.heap.size w w') : ListsOf w'.heap.size v ls w' := (h.below hb (Nat.le_refl _)).mono hb.size
end Go.Proofs.YtenfkejbndifdaaGreatDoor
