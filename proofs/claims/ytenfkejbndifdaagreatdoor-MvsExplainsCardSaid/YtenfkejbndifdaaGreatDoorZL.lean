/- Contracts of the reference 34: Why. Contracts of the reference 34: SameCause. -/
import Derived.Test.YtenfkejbndifdaaGreatDoorZJ
import Derived.Test.YtenfkejbndifdaaGreatDoorZK
import Derived.Test.YtenfkejbndifdaaGreatDoorYY
import Derived.Test.YtenfkejbndifdaaGreatDoorZH
namespace Go.Proofs.YtenfkejbndifdaaGreatDoor
set_option linter.unusedVariables false
set_option linter.unusedSimpArgs false
open Go Go.RowKit

def WhyRr (X : List RelL) (roots : List ReqL) (p : ByteArray) (w : World) (e : Ending) (w' : World) : Prop := Below w.heap.size w w' ∧
  ∃ v, e = .returned (.tuple #[.agg #[.string (whyV X roots p).1.1, .int .i64 (whyV X roots p).1.2.1, v], .int .i64 (whyV X roots p).2]) ∧ SelsOf w'.heap.size v (whyV X roots p).1.2.2 w'
structure WhyBx (w : World) (v iv : Value) (W : World) : Prop where
  bel : Below w.heap.size w W
  idx : W.heap[w.heap.size]? = some (.cells #[v, iv] 25 (0, 0))
  res : W.heap[w.heap.size + 1]? = some (.cells #[.string ⟨#[]⟩, .int .i64 0, .slice none 0 0] 29 (0, 0))
theorem WhyBx.lt {w : World} {v iv : Value} {W : World} (h : WhyBx w v iv W) : w.heap.size + 1 < W.heap.size := (Array.getElem?_eq_some_iff.1 h.res).1
theorem WhyBx.below {w : World} {v iv : Value} {W W' : World} (h : WhyBx w v iv W) (hb : Below W.heap.size W W') : WhyBx w v iv W' := by
  have hl := h.lt
  exact ⟨h.bel.trans (hb.mono h.bel.size), (hb.block _ (by omega)).trans h.idx, (hb.block _ hl).trans h.res⟩
theorem WhyBx.start (w : World) (v iv : Value) : WhyBx w v iv ((w.alloc (.cells #[v, iv] 25)).alloc (.cells #[.string ⟨#[]⟩, .int .i64 0, .slice none 0 0] 29)) := by
  refine ⟨(by repeat (first | exact Below.refl _ _ | refine Below.drew ?_ | refine Below.alloc ?_ (by simp <;> omega) _ | refine Below.setCell ?_ (by simp <;> omega) _)), ?_, ?_⟩
  · (simp only [alloc_get, World.size_alloc]; repeat (first | rw [if_pos trivial] | rw [if_neg (by omega)] | rw [if_pos (by omega)]))
  · (simp only [alloc_get, World.size_alloc]; repeat (first | rw [if_pos trivial] | rw [if_neg (by omega)] | rw [if_pos (by omega)]))
theorem WhyBx.zero {w : World} {v iv : Value} {W : World} (h : WhyBx w v iv W) : (((W.setCell ⟨w.heap.size + 1, 0, none⟩ (.string ⟨#[]⟩)).setCell ⟨w.heap.size + 1, 1, none⟩ (.int .i64 0)).setCell ⟨w.heap.size + 1, 2, none⟩ (.slice none 0 0)).heap[w.heap.size + 1]? = some (.cells #[.string ⟨#[]⟩, .int .i64 0, .slice none 0 0] 29 (0, 0)) ∧ Below w.heap.size w (((W.setCell ⟨w.heap.size + 1, 0, none⟩ (.string ⟨#[]⟩)).setCell ⟨w.heap.size + 1, 1, none⟩ (.int .i64 0)).setCell ⟨w.heap.size + 1, 2, none⟩ (.slice none 0 0)) :=
  ⟨setThree W (w.heap.size + 1) _ _ _ _ (.string ⟨#[]⟩) (.int .i64 0) (.slice none 0 0) h.res, ((h.bel.setCell (by simp) _).setCell (by simp) _).setCell (by simp) _⟩
theorem own_frm {W : World} {B e s n : Nat} {v : Value} {xs : List Value} (h : W.ownsRow B e s v n xs) : ∃ a m c, v = .slice a m c := by
  obtain ⟨hl, ⟨rfl, h0⟩ | ⟨g, cap, cur, rfl, _⟩⟩ := h
  · exact ⟨_, _, _, rfl⟩
  · exact ⟨_, _, _, rfl⟩
theorem RowOf.at {α : Type} {enc : α → Value} {B : Nat} {a : Option Addr} {n c : Nat} {l : List α} {W : World} (h : RowOf enc B (.slice a n c) l W) {i : Nat} (hi : i < l.length) : ∃ b off, a = some ⟨b, off, none⟩ ∧ b < B ∧ W.cell? ⟨b, off + i, none⟩ = some (enc l[i]) := by
  rcases h with ⟨h, _⟩ | ⟨b, off, cap, e, h1, h2⟩
  · subst h; cases hi
  · cases e; exact ⟨b, off, rfl, h1, h2 i _ (List.getElem?_eq_getElem hi)⟩
structure WhyCb (gc : Nat) (p : ByteArray) (r : Nat) (C : List SelL) (cv : Value) (w3 W : World) : Prop where
  eq : w3.heap.size = gc
  bel : Below gc w3 W
  out : W.heap[gc]? = some (.cells #[.string p, .int .i64 (r : Int), cv] 29 (0, 0))
  own : W.ownsRow (gc + 1) 43 4 cv C.length (selCells C)
section
variable {gc : Nat} {p : ByteArray} {r : Nat} {C : List SelL} {cv : Value} {w3 W : World}
theorem WhyCb.lt (h : WhyCb gc p r C cv w3 W) : gc < W.heap.size := (Array.getElem?_eq_some_iff.1 h.out).1
theorem WhyCb.on (h : WhyCb gc p r C cv w3 W) : Below w3.heap.size w3 W := by rw [h.eq]; exact h.bel
theorem WhyCb.start (w3 : World) (p : ByteArray) (r : Nat) : WhyCb w3.heap.size p r [] (.slice none 0 0) w3 (w3.alloc (.cells #[.string p, .int .i64 (r : Int), .slice none 0 0] 29)) := ⟨rfl, belQ _ _, World.alloc_heap_new _ _, World.ownsRow_nil _ _ _ _⟩
theorem WhyCb.below {W' : World} (h : WhyCb gc p r C cv w3 W) (hb : Below W.heap.size W W') : WhyCb gc p r C cv w3 W' :=
  ⟨h.eq, h.bel.trans (hb.mono (Nat.le_of_lt h.lt)), (hb.block gc h.lt).trans h.out, own_on h.own hb⟩
theorem WhyCb.keep {W6 : World} (h : WhyCb gc p r C cv w3 W) (hg : W.grownBy W6 cv.ownBlock) : W6.heap[gc]? = some (.cells #[.string p, .int .i64 (r : Int), cv] 29 (0, 0)) ∧ Below gc W W6 := by
  have h1 := h.lt
  have lo : ∀ b, some b = cv.ownBlock → gc < b := fun b hb => (own_lo h.own b hb.symm).1
  exact ⟨(hg.block gc h.lt (fun e => by have := lo _ e; omega)).trans h.out, (Below.refl _ _).grown hg (Nat.le_of_lt h1) (fun b hb => by have := lo b hb.symm; omega)⟩
theorem WhyCb.push {W6 : World} {cv' : Value} {y : SelL} (h : WhyCb gc p r C cv w3 W) (hown : W6.ownsRow (gc + 1) 43 4 cv' (C.length + 1) (selCells C ++ [.string y.1, intC y.2.1, intC y.2.2.1, intC y.2.2.2])) (hg : W.grownBy W6 cv.ownBlock) : WhyCb gc p r (C ++ [y]) cv' w3 (W6.setCell ⟨gc, 2, none⟩ cv') := by
  have hlt := h.lt
  obtain ⟨h0, h1, h5, h6⟩ := h
  have lo : ∀ b, some b = cv.ownBlock → gc < b := fun b hb => (own_lo h6 b hb.symm).1
  have g2 := grownBy_setC W6 gc 2 cv'
  refine ⟨h0, (h1.grown hg (Nat.le_of_lt hlt) (fun b hb => by have := lo b hb.symm; omega)).setCell (by simp) _, ?_, ?_⟩
  · exact heap_setCell_same _ _ 2 _ _ cv' ((hg.block gc hlt (fun e => by have := lo _ e; omega)).trans h5)
  · rw [List.length_append, List.length_singleton, selCells_snoc]
    exact own_farM hown g2 (by omega)
end
def lstC (X : List RelL) (bl : List Nat) (i : Nat) : List SelL := (bl.take i).map fun k => keyL (X.getD k default)
theorem lstC_len (X : List RelL) (bl : List Nat) (i : Nat) : (lstC X bl i).length ≤ i := by unfold lstC; rw [List.length_map, List.length_take]; omega
theorem lstC_succ {X : List RelL} {bl : List Nat} {i k : Nat} (h : bl[i]? = some k) : lstC X bl (i + 1) = lstC X bl i ++ [keyL (X.getD k default)] := by
  unfold lstC
  obtain ⟨hi, rfl⟩ := List.getElem?_eq_some_iff.1 h
  rw [List.take_succ_eq_append_getElem hi, List.map_append]
  rfl
theorem lstC_all {X : List RelL} {bl : List Nat} : lstC X bl bl.length = bl.map fun k => keyL (X.getD k default) := by unfold lstC; rw [List.take_length]
theorem bestW_path {X : List RelL} {roots : List ReqL} {t i : Nat} (ht : t < X.length) : (∀ k ∈ (bestW X roots t i).1, k < X.length) ∧ (bestW X roots t i).1.length ≤ X.length + 1 := by
  unfold bestW
  cases bestK (rootD X roots t) i with
  | none => exact ⟨fun k hk => (by cases hk), Nat.zero_le _⟩
  | some r =>
    simp only
    generalize (namedI false X (roots.getD r default)).getD 0 = a
    refine ⟨fun k hk => ?_, ?_⟩
    · have hk : k ∈ (if gD (dT X t) a < 0 then [] else descP (sucs X.length (relEs X)) (dT X t) (gD (dT X t) a).toNat a) := hk
      by_cases h : gD (dT X t) a < 0
      · rw [if_pos h] at hk; cases hk
      · rw [if_neg h] at hk
        obtain ⟨i, hi⟩ := List.mem_iff_getElem?.1 hk
        have hl := (List.getElem?_eq_some_iff.1 hi).1
        have hl2 := desc_len (sucs X.length (relEs X)) (dT X t) (gD (dT X t) a).toNat a
        have hd := descP_dist (S := sucs X.length (relEs X)) (far := dT X t) (gD (dT X t) a).toNat a (by omega) i k hi
        have := gD_lt (d := dT X t) (a := k) (by rw [hd]; omega)
        rwa [(swap_dT ht).len, sucs_length] at this
    · rw [path_len ht]
      have := dD_bound ht a
      show (gD (dT X t) a + 1).toNat ≤ _
      have h2 : gD (dT X t) a ≤ X.length := this
      omega
theorem WhyCb.fin {w : World} {v iv : Value} {gc : Nat} {p : ByteArray} {r : Nat} {C : List SelL} {cv : Value} {w3 W : World} (hb : WhyBx w v iv w3) (h : WhyCb gc p r C cv w3 W) : (((W.setCell ⟨w.heap.size + 1, 0, none⟩ (.string p)).setCell ⟨w.heap.size + 1, 1, none⟩ (.int .i64 (r : Int))).setCell ⟨w.heap.size + 1, 2, none⟩ cv).heap[w.heap.size + 1]? = some (.cells #[.string p, .int .i64 (r : Int), cv] 29 (0, 0)) ∧
    Below w.heap.size w (((W.setCell ⟨w.heap.size + 1, 0, none⟩ (.string p)).setCell ⟨w.heap.size + 1, 1, none⟩ (.int .i64 (r : Int))).setCell ⟨w.heap.size + 1, 2, none⟩ cv) ∧
    SelsOf (((W.setCell ⟨w.heap.size + 1, 0, none⟩ (.string p)).setCell ⟨w.heap.size + 1, 1, none⟩ (.int .i64 (r : Int))).setCell ⟨w.heap.size + 1, 2, none⟩ cv).heap.size cv C (((W.setCell ⟨w.heap.size + 1, 0, none⟩ (.string p)).setCell ⟨w.heap.size + 1, 1, none⟩ (.int .i64 (r : Int))).setCell ⟨w.heap.size + 1, 2, none⟩ cv) := by
  have hb2 := hb.below h.on
  have hlt := hb.lt
  rw [h.eq] at hlt
  refine ⟨setThree W (w.heap.size + 1) _ _ _ _ (.string p) (.int .i64 (r : Int)) cv hb2.res, ((hb2.bel.setCell (by simp) _).setCell (by simp) _).setCell (by simp) _, own_sels (B := gc + 1) ?_⟩
  exact own_farM (own_farM (own_farM h.own (grownBy_setC W (w.heap.size + 1) 0 (.string p)) (by omega)) (grownBy_setC _ (w.heap.size + 1) 1 (.int .i64 (r : Int))) (by omega)) (grownBy_setC _ (w.heap.size + 1) 2 cv) (by omega)
def HeldWy (g : Nat) (v iv : Value) (b o : Nat) (y : SelL) (W : World) : Prop := (W.cell? ⟨g, 0, none⟩ = some v ∧ W.cell? ⟨g, 1, none⟩ = some iv) ∧ SelAt W b o y
theorem EdgesOf.onE {w w' : World} {v : Value} {es : List (Int × Int)} (h : EdgesOf w.heap.size v es w) (hb : Below w.heap.size w w') : EdgesOf w'.heap.size v es w' := (h.below hb (Nat.le_refl _)).mono hb.size
def HeldWg (gi g : Nat) (v iv gv ev : Value) (b o : Nat) (q rq : Value) (W : World) : Prop := (W.cell? ⟨gi, 0, none⟩ = some v ∧ W.cell? ⟨gi, 1, none⟩ = some iv) ∧ (W.cell? ⟨g, 0, none⟩ = some gv ∧ W.cell? ⟨g, 1, none⟩ = some ev) ∧ W.cell? ⟨b, o, none⟩ = some q ∧ W.cell? ⟨b, o + 1, none⟩ = some rq
set_option maxRecDepth 100000 in
set_option maxHeartbeats 16000000 in
theorem rWhy34_any (v iv rov : Value) (X : List RelL) (roots : List ReqL) (p : ByteArray) (w : World) (hX : X.length ≤ 200) (hq : ∀ x ∈ X, RelBd x) (hR : RelsOf w.heap.size v X w)
    (hro : roots.length ≤ 1000000) (hrq : ReqsBd roots) (hRo : ReqsOf w.heap.size rov roots w) :
    Calls Tryz.prog 14 #[.agg #[v, iv], rov, .string p] w (WhyRr X roots p w) := by
  have hX1 : X.length ≤ 1000000 := by omega
  have HSE := Lib.hid (fun W (hb : RowKit.Below w.heap.size w W) => rSelect34_any v iv rov X roots W hX1 hq (hR.on hb) hro hrq (hRo.on hb))
  have HPO := Lib.hid (fun (y : SelL) W (hb : RowKit.Below w.heap.size w W) => rposition_any v iv X y W hX1 (hR.on hb))
  have HRS := Lib.hid (fun (hv : ∀ x ∈ X, validB x.ver.1 x.ver.2.1 x.ver.2.2 = true) W (hb : RowKit.Below w.heap.size w W) => releases_any v iv X W hX1 hq hv (hR.on hb))
  have HNM := Lib.hid (fun (hv : ∀ x ∈ X, validB x.ver.1 x.ver.2.1 x.ver.2.2 = true) (q : ReqL) rq W (hb : Below w.heap.size w W) (hl : q.2.length ≤ 1000000) (hQ : SpansOf W.heap.size rq q.2 W) => rnamed_any false v iv X q rq W hX1 hv (hR.on hb) hl hQ)
  obtain ⟨ao, cap, rv, rfl, hrv⟩ := hR.rv
  have HRV := Lib.hid hrv
  have HRo := Lib.hid hRo
  have HQB := Lib.hid hq
  have HRB := Lib.hid hrq
  obtain ⟨ra, rc, rfl⟩ : ∃ ra rc, rov = .slice ra roots.length rc := by obtain ⟨a, c, e, _⟩ := hRo; exact ⟨a, c, e⟩
  clear hq hR hrq hRo hrv
  have HB0 := Lib.hid (WhyBx.start w (.slice ao X.length cap) iv)
  go_enter Tryz.func14, Tryz.ntmps14
  go_upto_region 1 with fail
  generalize (w.alloc (.cells #[.slice ao X.length cap, iv] 25)).alloc (.cells #[.string ⟨#[]⟩, .int .i64 0, .slice none 0 0] 29) = W at *
  have c0 : W.cell? ⟨w.heap.size, 0, none⟩ = some (.slice ao X.length cap) := cell_of_row _ _ 0 _ _ _ HB0.out.idx
  have c1 : W.cell? ⟨w.heap.size, 1, none⟩ = some iv := cell_of_row _ _ 1 _ _ _ HB0.out.idx
  go_wp2_with fail
  refine (HSE.out _ HB0.out.bel).mono ?_
  rintro e w1 ⟨hb1, sv, rfl, hs1⟩
  have HB1 := Lib.hid (HB0.out.below hb1)
  have HS1 := Lib.hid hs1
  obtain ⟨E, hE⟩ : ∃ E, (selM false X roots).2 = E := ⟨_, rfl⟩
  have HEE := Lib.hid hE
  rw [hE]
  clear hb1 hs1 HSE c0 c1 hE HB0
  have r0 : w1.cell? ⟨w.heap.size + 1, 0, none⟩ = some (.string ⟨#[]⟩) := cell_of_row _ _ 0 _ _ _ HB1.out.res
  have r1 : w1.cell? ⟨w.heap.size + 1, 1, none⟩ = some (.int .i64 0) := cell_of_row _ _ 1 _ _ _ HB1.out.res
  have r2 : w1.cell? ⟨w.heap.size + 1, 2, none⟩ = some (.slice none 0 0) := cell_of_row _ _ 2 _ _ _ HB1.out.res
  have q0 := frozen_of_row _ _ 0 _ _ HB1.out.res
  have q1 := frozen_of_row _ _ 1 _ _ HB1.out.res
  have q2 := frozen_of_row _ _ 2 _ _ HB1.out.res
  by_cases hE0 : E = 0
  case neg =>
    have hE1 : (E != 0) = true := by simpa using hE0
    have HWV := Lib.hid (whyV_err (p := p) (show (selM false X roots).2 ≠ 0 from fun e => hE0 (HEE.out.symm.trans e)))
    have HZ := Lib.hid HB1.out.zero
    go_wp2_with fail
    refine bodyPost_ret (results_cell_tmp rfl _ _ (w.heap.size + 1) _ _ _ _ rfl HZ.out.1 Tryz.underlying29 rfl (by kernel_rfl)) rfl ?_
    refine ⟨HZ.out.2, .slice none 0 0, by rw [HWV.out, HEE.out]; rfl, by rw [HWV.out]; exact ⟨_, _, rfl, fun i y hy => by simp at hy⟩⟩
  subst hE0
  have hpa := selM_zero HEE.out
  have HIX := Lib.hid (idx_ok hpa.1.idx)
  have HP := Lib.hid hpa.1
  have HA := Lib.hid hpa.2
  have HSM : Hid ((selM false X roots).1 = (topM false X roots).map fun i => keyL (X.getD i default)) := Lib.hid (by rw [selM_ok hpa.1 hpa.2]; rfl)
  clear hpa r0 r1 r2 q0 q1 q2
  have hs2 := HS1.out
  rw [HSM.out] at hs2
  clear HS1
  have HS := Lib.hid hs2
  obtain ⟨T, hT⟩ : ∃ T, topM false X roots = T := ⟨_, rfl⟩
  have HTM : Hid (∀ i ∈ T, i < X.length) := Lib.hid (fun i hi => by rw [← hT] at hi; exact (topM_mem.1 hi).1.lt.1)
  rw [hT] at HS
  have HTT := Lib.hid hT
  obtain ⟨sa, sc, rfl⟩ : ∃ sa sc, sv = .slice sa T.length sc := by obtain ⟨a, c, e, _⟩ := HS.out; exact ⟨a, c, by rw [e, List.length_map]⟩
  clear hs2 hT HSM
  have htl : T.length ≤ X.length := by
    have := sub_length (l := T) (m := List.range X.length) (by rw [← HTT.out]; exact (topM_sorted false X roots).imp Nat.ne_of_lt) (fun i hi => List.mem_range.2 (HTM.out i hi))
    simpa using this
  go_wp2_with fail
  go_loopw [10, 11] (fun tv q wr => Hid (∃ (i : Nat) (o : Option Nat), i ≤ T.length ∧ q = .int .i64 (i : Int) ∧ tv = .int .i64 (optI o) ∧ (∀ t, o = some t → t ∈ T ∧ (X.getD t default).path = p) ∧ (o = none → ∀ j ∈ T.take i, (X.getD j default).path ≠ p) ∧ WhyBx w (.slice ao X.length cap) iv wr ∧ Below w1.heap.size w1 wr)) (fun _ q _ => T.length - (intOf q).toNat)
  case atStart => exact Lib.hid ⟨0, none, Nat.zero_le _, rfl, rfl, (fun t h => by cases h), (fun _ j hj => by simp at hj), HB1.out, Below.refl _ _⟩
  case round =>
    obtain ⟨i, o, hi, rfl, rfl, h1, h2, hb, hbl⟩ := hrel.out
    have HO1 := Lib.hid h1
    have HO2 := Lib.hid h2
    have HB := Lib.hid hb
    have HBL := Lib.hid hbl
    clear hrel h1 h2 hb hbl
    by_cases hlt : i < T.length
    case neg =>
      have hii : i = T.length := Nat.le_antisymm hi (Nat.le_of_not_lt hlt)
      have HTG : Hid (tgtM X roots p = o) := Lib.hid (tgt_end (by rw [HTT.out]; exact HO1.out) (by rw [HTT.out]; intro e j hj; exact HO2.out e j (by rw [hii, List.take_length]; exact hj)))
      clear hi
      subst hii
      have c0 : wr.cell? ⟨w.heap.size, 0, none⟩ = some (.slice ao X.length cap) := cell_of_row _ _ 0 _ _ _ HB.out.idx
      have c1 : wr.cell? ⟨w.heap.size, 1, none⟩ = some iv := cell_of_row _ _ 1 _ _ _ HB.out.idx
      cases o with
      | none =>
        have r0 : wr.cell? ⟨w.heap.size + 1, 0, none⟩ = some (.string ⟨#[]⟩) := cell_of_row _ _ 0 _ _ _ HB.out.res
        have r1 : wr.cell? ⟨w.heap.size + 1, 1, none⟩ = some (.int .i64 0) := cell_of_row _ _ 1 _ _ _ HB.out.res
        have r2 : wr.cell? ⟨w.heap.size + 1, 2, none⟩ = some (.slice none 0 0) := cell_of_row _ _ 2 _ _ _ HB.out.res
        have q0 := frozen_of_row _ _ 0 _ _ HB.out.res
        have q1 := frozen_of_row _ _ 1 _ _ HB.out.res
        have q2 := frozen_of_row _ _ 2 _ _ HB.out.res
        have HWV := Lib.hid (whyV_none HP.out HA.out HTG.out)
        have HZ := Lib.hid HB.out.zero
        have hd : decide ((-1 : Int) < 0) = true := by decide
        simp only [optI]
        go_wp2_with fail
        refine bodyPost_ret (results_cell_tmp rfl _ _ (w.heap.size + 1) _ _ _ _ rfl HZ.out.1 Tryz.underlying29 rfl (by kernel_rfl)) rfl ?_
        refine ⟨HZ.out.2, .slice none 0 0, by rw [HWV.out]; rfl, by rw [HWV.out]; exact ⟨_, _, rfl, fun i y hy => by simp at hy⟩⟩
      | some t =>
        have htX := HTM.out t (HO1.out t rfl).1
        have hd : decide ((t : Int) < 0) = false := decide_eq_false (by omega)
        have HWV := Lib.hid (whyV_best (p := p) HEE.out HTG.out)
        have HVX : Hid (∀ x ∈ X, validB x.ver.1 x.ver.2.1 x.ver.2.2 = true) := Lib.hid (fun x hx => by obtain ⟨i, hi, rfl⟩ := List.mem_iff_getElem.1 hx; simpa [List.getD_eq_getElem?_getD, List.getElem?_eq_getElem hi] using validX HIX.out i hi)
        simp only [optI]
        go_wp2_with fail
        refine (HRS.out HVX.out wr HB.out.bel).mono ?_
        rintro e w2 ⟨ga, gc, ev, rfl, hes, hb2⟩
        have HB2 := Lib.hid (HB.out.below hb2)
        have HES := Lib.hid hes
        obtain ⟨ea, en, ec, rfl⟩ : ∃ a n c, ev = .slice a n c := by obtain ⟨a, c, e, _⟩ := hes; exact ⟨a, _, c, e⟩
        clear hb2 hes c0 c1 HB HBL HRS
        go_wp2_with fail
        have HB3 := Lib.hid ((HB2.out.below (belQ w2 (.cells #[.slice ga X.length gc, .slice ea en ec] 100))).below (belQ (w2.alloc (.cells #[.slice ga X.length gc, .slice ea en ec] 100)) (.cells #[] 3)))
        have HE3 := Lib.hid ((HES.out.onE (belQ w2 (.cells #[.slice ga X.length gc, .slice ea en ec] 100))).onE (belQ (w2.alloc (.cells #[.slice ga X.length gc, .slice ea en ec] 100)) (.cells #[] 3)))
        have HG3 := Lib.hid (((belQ (w2.alloc (.cells #[.slice ga X.length gc, .slice ea en ec] 100)) (.cells #[] 3)).block w2.heap.size (by simp)).trans (World.alloc_heap_new w2 _))
        generalize (w2.alloc (.cells #[.slice ga X.length gc, .slice ea en ec] 100)).alloc (.cells #[] 3) = W3 at *
        generalize w2.heap.size = g at *
        have hg3 : g < W3.heap.size := (Array.getElem?_eq_some_iff.1 HG3.out).1
        have hgv : validG X.length (relEs X) = true := rel_valid hX (fun x hx => by
          obtain ⟨i, hi, rfl⟩ := List.mem_iff_getElem.1 hx
          have h := (reqs_ok (HIX.out.rel i hi).reqs).len
          rwa [List.getD_eq_getElem?_getD, List.getElem?_eq_getElem hi] at h)
        have HPA := Lib.hid (fun (x : Nat) (hx : x < X.length) W (hE : EdgesOf W.heap.size (.slice ea en ec) (relEs X) W) => rPath_yes ga X.length gc (.slice ea en ec) (relEs X) x t W hE hgv hx htX)
        clear HB2 HES hgv
        go_loopw [13, 14, 15] (fun bv rv q wr => Hid (∃ (i : Nat) (ba : Option Addr) (bc : Nat), i ≤ roots.length ∧ q = .int .i64 (i : Int) ∧ bv = .slice ba (bestW X roots t i).1.length bc ∧ rv = .int .i64 ((bestW X roots t i).2 : Int) ∧ RowOf natC wr.heap.size (.slice ba (bestW X roots t i).1.length bc) (bestW X roots t i).1 wr ∧ WhyBx w (.slice ao X.length cap) iv wr ∧ Below W3.heap.size W3 wr)) (fun _ _ q _ => roots.length - (intOf q).toNat)
        case atStart => exact Lib.hid ⟨0, _, _, Nat.zero_le _, rfl, rfl, rfl, .inl ⟨rfl, _, _, rfl⟩, HB3.out, Below.refl _ _⟩
        case round =>
          obtain ⟨i, ba, bc, hi, rfl, rfl, rfl, hrow, hb, hbl⟩ := hrel.out
          have HROW := Lib.hid hrow
          have HB := Lib.hid hb
          have HBL := Lib.hid hbl
          clear hrel hrow hb hbl HB3
          by_cases hlt : i < roots.length
          case neg =>
            have hii : i = roots.length := Nat.le_antisymm hi (Nat.le_of_not_lt hlt)
            clear hi
            subst hii
            obtain ⟨hbX, hbL⟩ := bestW_path (roots := roots) (i := roots.length) htX
            have HBX := Lib.hid hbX
            have HBL2 := Lib.hid hbL
            clear hbX hbL
            generalize (bestW X roots t roots.length).1 = bl at *
            generalize (bestW X roots t roots.length).2 = br at *
            obtain ⟨w3, rfl⟩ : ∃ w3, w3 = wr := ⟨_, rfl⟩
            have HCJ0 := Lib.hid (WhyCb.start w3 p br)
            have HBw := HB
            clear HB HBL HNM HPA HRB HRo
            go_wp2_with fail
            generalize w3.alloc (.cells #[.string p, .int .i64 (br : Int), .slice none 0 0] 29) = W4 at *
            obtain ⟨gc, hgc⟩ : ∃ gc, w3.heap.size = gc := ⟨_, rfl⟩
            rw [hgc] at HCJ0
            simp only [hgc]
            clear hgc
            go_loopw [18] (fun q W => Hid (∃ (i : Nat) (cv : Value), i ≤ bl.length ∧ q = .int .i64 (i : Int) ∧ WhyCb gc p br (lstC X bl i) cv w3 W)) (fun q _ => bl.length - (intOf q).toNat)
            case atStart => exact Lib.hid ⟨0, _, Nat.zero_le _, rfl, HCJ0.out⟩
            case round =>
              obtain ⟨i, cv, hi, rfl, hcj⟩ := hrel.out
              have HCJ := Lib.hid hcj
              clear hrel hcj HCJ0
              by_cases hlt : i < bl.length
              case neg =>
                have hii : i = bl.length := Nat.le_antisymm hi (Nat.le_of_not_lt hlt)
                clear hi
                subst hii
                have HCE : Hid (WhyCb gc p br (bl.map fun k => keyL (X.getD k default)) cv w3 wr) := Lib.hid (by have h := HCJ.out; rwa [lstC_all] at h)
                have HF := Lib.hid (WhyCb.fin HBw.out HCE.out)
                have HBE := Lib.hid (HBw.out.below HCE.out.on)
                obtain ⟨ea, en, ec, rfl⟩ := own_frm HCE.out.own
                have o0 : wr.cell? ⟨gc, 0, none⟩ = some (.string p) := cell_of_row _ _ 0 _ _ _ HCE.out.out
                have o1 : wr.cell? ⟨gc, 1, none⟩ = some (.int .i64 (br : Int)) := cell_of_row _ _ 1 _ _ _ HCE.out.out
                have o2 : wr.cell? ⟨gc, 2, none⟩ = some (.slice ea en ec) := cell_of_row _ _ 2 _ _ _ HCE.out.out
                have r0 : wr.cell? ⟨w.heap.size + 1, 0, none⟩ = some (.string ⟨#[]⟩) := cell_of_row _ _ 0 _ _ _ HBE.out.res
                have r1 : wr.cell? ⟨w.heap.size + 1, 1, none⟩ = some (.int .i64 0) := cell_of_row _ _ 1 _ _ _ HBE.out.res
                have r2 : wr.cell? ⟨w.heap.size + 1, 2, none⟩ = some (.slice none 0 0) := cell_of_row _ _ 2 _ _ _ HBE.out.res
                have q0 := frozen_of_row _ _ 0 _ _ HBE.out.res
                have q1 := frozen_of_row _ _ 1 _ _ HBE.out.res
                have q2 := frozen_of_row _ _ 2 _ _ HBE.out.res
                clear HCJ HCE HBE
                go_wp2_with fail
                refine bodyPost_ret (results_cell_tmp rfl _ _ (w.heap.size + 1) _ _ _ _ rfl HF.out.1 Tryz.underlying29 rfl (by kernel_rfl)) rfl ?_
                refine ⟨HF.out.2.1, .slice ea en ec, by rw [HWV.out]; rfl, by rw [HWV.out]; exact HF.out.2.2⟩
              case pos =>
                have hj0 : (0 : Int) ≤ (i : Int) := Int.natCast_nonneg i
                have hj1 : (i : Int) < (bl.length : Int) := Int.ofNat_lt.2 hlt
                obtain ⟨rb, ro, e2, hrb, hr0⟩ := HROW.out.at hlt
                subst e2
                have hki := List.getElem?_eq_getElem hlt
                have hkX := HBX.out _ (List.getElem_mem hlt)
                have HSU := Lib.hid (lstC_succ (X := X) hki)
                have hcl : (lstC X bl i).length ≤ X.length + 1 := Nat.le_trans (lstC_len X bl i) (Nat.le_trans (Nat.le_of_lt hlt) HBL2.out)
                have hbb : bl.length ≤ 1000001 := Nat.le_trans HBL2.out (by omega)
                generalize bl[i] = k at *
                clear hki
                obtain ⟨b, off, e1, hbl, hcs, hrq⟩ := HRV.out k _ (List.getElem?_eq_getElem hkX)
                subst e1
                have gX : X.getD k default = X[k] := by rw [List.getD_eq_getElem?_getD, List.getElem?_eq_getElem hkX]; rfl
                rw [gX] at HSU
                have HBE := Lib.hid (HBw.out.below HCJ.out.on)
                have hcs := hcs.below HBE.out.bel hbl
                have hr0 := (HCJ.out.on.cell (p := ⟨rb, ro + i, none⟩) hrb).trans hr0
                have hkk0 : (0 : Int) ≤ (k : Int) := Int.natCast_nonneg k
                have hkk1 : (k : Int) < (X.length : Int) := Int.ofNat_lt.2 hkX
                generalize X[k] = x at *
                generalize rv k = r at *
                obtain ⟨ra2, rc2, rfl, _⟩ := hrq
                generalize lstC X bl i = L at *
                obtain ⟨d0, d1, d2, d3, d4, d5, d6, d7, d8⟩ := hcs
                have c0 : wr.cell? ⟨w.heap.size, 0, none⟩ = some (.slice (some ⟨b, off, none⟩) X.length cap) := cell_of_row _ _ 0 _ _ _ HBE.out.idx
                have hbw : b < wr.heap.size := Nat.lt_of_lt_of_le hbl HBE.out.bel.size
                have hrbw : rb < wr.heap.size := Nat.lt_of_lt_of_le hrb HCJ.out.on.size
                have hwl : w.heap.size < wr.heap.size := Nat.lt_of_le_of_lt (Nat.le_succ _) HBE.out.lt
                clear gX HBE
                go_upto_region 24 with fail
                go_cut [19] from 96 to 103 (fun s19 wx => ∃ gx : Nat, s19 = .pointer (some ⟨gx, 0, none⟩) ∧ Hid (BoxR wx gx x (.slice ra2 x.reqs.length rc2) ∧ Below wr.heap.size wr wx))
                case first =>
                  go_region
                  all_goals
                    go_wp2_with fail
                    go_meet
                    exact ⟨_, rfl, Lib.hid ⟨BoxR.made _ x _, (belQ _ _).drew⟩⟩
                case rest =>
                  obtain ⟨gx, rfl, HX⟩ := hcut
                  generalize wc = w5 at *
                  have HCJ5 := Lib.hid (HCJ.out.below HX.out.2)
                  clear d0 d1 d2 d3 d4 d5 d6 d7 d8 c0 hr0 HCJ
                  obtain ⟨x0, x1, x2, x3, _⟩ := HX.out.1.cells
                  have hgx := HX.out.1.lt
                  have o2 : w5.cell? ⟨gc, 2, none⟩ = some cv := cell_of_row _ _ 2 _ _ _ HCJ5.out.out
                  have hgc5 := HCJ5.out.lt
                  have HCJ6 := Lib.hid (HCJ5.out.below (belQ w5 (.cells #[.string x.path, intC x.ver.1, intC x.ver.2.1, intC x.ver.2.2] 43)))
                  have HN6 := Lib.hid (World.alloc_heap_new w5 (.cells #[.string x.path, intC x.ver.1, intC x.ver.2.1, intC x.ver.2.2] 43))
                  have hz6 : gc + 1 ≤ (w5.alloc (.cells #[.string x.path, intC x.ver.1, intC x.ver.2.1, intC x.ver.2.2] 43)).heap.size := HCJ6.out.lt
                  have HKEEP := Lib.hid (fun w6 hg => HCJ6.out.keep (W6 := w6) hg)
                  obtain ⟨si0, hsi0, hsz0, hsz1, hsz2⟩ := info_parts info_sel
                  clear HX HCJ5
                  go_wp2_with (at_builtin; refine wpList_append_own _ rfl _ _ 27 rfl (gc + 1) 43 si0 _ 4 40 Tryz.underlying27 hsi0 hsz0 hsz1 hsz2 rfl (by decide) cv _ _ (by rfl) HCJ6.out.own ⟨w5.heap.size, 0, none⟩ 1 1 [.string x.path, intC x.ver.1, intC x.ver.2.1, intC x.ver.2.2] (by rfl) (by rfl) (World.news_of_block HN6.out) (by simp [Value.oneCell']) (app1 hcl hX1) (app2 hcl hX1) hz6 ?_; intro v' wB hown' hgrow _; have HOW := Lib.hid hown'; have HGR := Lib.hid hgrow; have HKP := Lib.hid (HKEEP.out _ hgrow); have o2 : wB.cell? ⟨gc, 2, none⟩ = some cv := cell_of_row _ _ 2 _ _ _ HKP.out.1; have q2 := frozen_of_row _ _ 2 _ _ HKP.out.1; clear hown' hgrow; obtain ⟨g3, gc3, rfl⟩ := ownsRow_succ HOW.out)
                  all_goals
                    have HJB := Lib.hid (HCJ6.out.push (y := keyL x) HOW.out HGR.out)
                    refine ⟨Lib.hid ⟨i + 1, _, hlt, by go_num, by rw [HSU.out]; exact HJB.out⟩, ?_⟩
                    simp [intOf]; omega
          case pos =>
            have hi0 : (0 : Int) ≤ (i : Int) := Int.natCast_nonneg i
            have hi1 : (i : Int) < (roots.length : Int) := Int.ofNat_lt.2 hlt
            obtain ⟨rb, ro, rs, rfl, hrb, hr0, hr1, hrs⟩ := HRo.out.get hlt
            obtain ⟨k, hn⟩ := HA.out.1 _ (List.getElem_mem hlt)
            have hkX := (candI_mem.1 (named_mem hn)).1
            have HST := Lib.hid (bestW_step htX (fun q hq => HA.out.1 q hq) hlt hn)
            have hql := (HRB.out _ (List.getElem_mem hlt)).2
            generalize roots[i] = q at *
            have hr0 := (HB.out.bel.cell (p := ⟨rb, ro + i * 2, none⟩) hrb).trans hr0
            have hr1 := (HB.out.bel.cell (p := ⟨rb, ro + i * 2 + 1, none⟩) hrb).trans hr1
            have hrbr : rb < wr.heap.size := Nat.lt_of_lt_of_le hrb HB.out.bel.size
            have HSB : Hid (∀ W', Below wr.heap.size wr W' → HeldWg w.heap.size g (.slice ao X.length cap) iv (.slice ga X.length gc) (.slice ea en ec) rb (ro + i * 2) (.string q.1) rs W') := Lib.hid (fun W' hb => ⟨⟨cell_of_row _ _ 0 _ _ _ (HB.out.below hb).idx, cell_of_row _ _ 1 _ _ _ (HB.out.below hb).idx⟩, ⟨cell_of_row _ _ 0 _ _ _ (((HBL.out.trans (hb.mono HBL.out.size)).block g hg3).trans HG3.out), cell_of_row _ _ 1 _ _ _ (((HBL.out.trans (hb.mono HBL.out.size)).block g hg3).trans HG3.out)⟩, (hb.cell (p := ⟨rb, ro + i * 2, none⟩) hrbr).trans hr0, (hb.cell (p := ⟨rb, ro + i * 2 + 1, none⟩) hrbr).trans hr1⟩)
            have HNQ := Lib.hid (fun W' (hb : Below wr.heap.size wr W') => by have h := HNM.out HVX.out q rs W' (HB.out.bel.trans (hb.mono HB.out.bel.size)) hql (hrs.on (HB.out.bel.trans (hb.mono HB.out.bel.size))); rw [hn] at h; exact h)
            have HPQ := Lib.hid (fun W' (hb : Below wr.heap.size wr W') => HPA.out k hkX W' (HE3.out.onE (HBL.out.trans (hb.mono HBL.out.size))))
            obtain ⟨wl, hwl⟩ : ∃ wl, pathF X.length (relEs X) k t = wl := ⟨_, rfl⟩
            rw [hwl] at HST HPQ
            obtain ⟨B2, hB2⟩ : ∃ B2, bestW X roots t (i + 1) = B2 := ⟨_, rfl⟩
            rw [hB2] at HST
            have HB2 := Lib.hid hB2
            generalize bestW X roots t i = B1 at *
            clear hr0 hr1 hrs hql hn hwl hB2
            go_upto_region 17 with fail
            refine wp_region_noPanic ?_
            refine wp_region_held_drew (S := HeldWg w.heap.size g (.slice ao X.length cap) iv (.slice ga X.length gc) (.slice ea en ec) rb (ro + i * 2) (.string q.1) rs) (by kernel_rfl) (HSB.out _ (Below.refl _ _).drew) (fun hS0 => ?_)
            (refine zl2 (i := 0) (v := ?_) rfl (Or.inl ⟨by rfl, ?_⟩) (by assumption) ?_; rotate_left; (· (rintro w ⟨⟨c0, c1⟩, ⟨g0, g1⟩, f0, f1⟩; go_simp; try with_reducible rfl)); (try simp only [zl1, Act.put]))
            (refine zl2 (i := 1) (v := ?_) rfl (Or.inl ⟨by rfl, ?_⟩) (by assumption) ?_; rotate_left; (· (rintro w ⟨⟨c0, c1⟩, ⟨g0, g1⟩, f0, f1⟩; go_simp; try with_reducible rfl)); (try simp only [zl1, Act.put]))
            (refine zl2 (i := 2) (v := ?_) rfl (Or.inl ⟨by rfl, ?_⟩) (by assumption) ?_; rotate_left; (· (rintro w ⟨⟨c0, c1⟩, ⟨g0, g1⟩, f0, f1⟩; go_simp; try with_reducible rfl)); (try simp only [zl1, Act.put]))
            (refine zl2 (i := 3) (v := ?_) rfl (Or.inl ⟨by rfl, ?_⟩) (by assumption) ?_; rotate_left; (· (rintro w ⟨⟨c0, c1⟩, ⟨g0, g1⟩, f0, f1⟩; go_simp; try with_reducible rfl)); (try simp only [zl1, Act.put]))
            (refine zl2 (i := 4) (v := ?_) rfl (Or.inl ⟨by rfl, ?_⟩) (by assumption) ?_; rotate_left; (· (rintro w ⟨⟨c0, c1⟩, ⟨g0, g1⟩, f0, f1⟩; go_simp; try with_reducible rfl)); (try simp only [zl1, Act.put]))
            (refine zl2 (i := 5) (v := ?_) rfl (Or.inl ⟨by rfl, ?_⟩) (by assumption) ?_; rotate_left; (· (rintro w ⟨⟨c0, c1⟩, ⟨g0, g1⟩, f0, f1⟩; go_simp; try with_reducible rfl)); (try simp only [zl1, Act.put]))
            (refine zl2 (i := 7) (v := ?_) rfl (Or.inl ⟨by rfl, ?_⟩) (by assumption) ?_; rotate_left; (· (rintro w ⟨⟨c0, c1⟩, ⟨g0, g1⟩, f0, f1⟩; go_simp; try with_reducible rfl)); (try simp only [zl1, Act.put]))
            refine wpAnyH_ready (rs := [6]) (by kernel_rfl) (by simp) (AllReadyH.cons rfl (fun K hK => ?_) AllReadyH.nil)
            go_simp
            refine (HNQ.out _ (Below.refl wr.heap.size wr).drew).mono ?_
            rintro e w5 ⟨rfl, hb5⟩
            have HB5 := Lib.hid ((Below.refl wr.heap.size wr).drew.trans hb5)
            clear hS0
            have hS0 := HSB.out _ HB5.out
            refine hK.out _ _ hS0 (fun _ => ?_)
            clear hK K hb5
            (try simp only [zl1, Act.put])
            refine wpAnyH_ready (rs := [8]) (by kernel_rfl) (by simp) (AllReadyH.cons rfl (fun K hK => ?_) AllReadyH.nil)
            go_simp
            refine (HPQ.out _ HB5.out).mono ?_
            rintro e w6 ⟨v6, rfl, how, hb6⟩
            have HB6 := Lib.hid (HB5.out.trans (hb6.mono HB5.out.size))
            have HR6 := Lib.hid (own_row how).2
            obtain ⟨pa, pc, rfl⟩ := own_any how
            clear hS0
            have hS0 := HSB.out _ HB6.out
            refine hK.out _ _ hS0 (fun _ => ?_)
            clear hK K hb6 how
            (try simp only [zl1, Act.put])
            (refine zl2 (i := 9) (v := ?_) rfl (Or.inl ⟨by rfl, ?_⟩) (by assumption) ?_; rotate_left; (· (rintro w ⟨⟨c0, c1⟩, ⟨g0, g1⟩, f0, f1⟩; go_simp; try with_reducible rfl)); (try simp only [zl1, Act.put]))
            refine wpAnyH_done (by kernel_rfl) ?_ _
            refine NoPanic.normal ?_
            have HB7 := Lib.hid (HB.out.below HB6.out)
            have HBL7 := Lib.hid (HBL.out.trans (HB6.out.mono HBL.out.size))
            have HR7 := Lib.hid ((HROW.out.below HB6.out (Nat.le_refl _)).mono HB6.out.size)
            clear HSB HNQ HPQ hS0 HB5 HB6 HB HBL HROW
            have hwl0 : (0 : Int) ≤ (wl.length : Int) := Int.natCast_nonneg _
            by_cases h1 : 0 < wl.length
            case neg =>
              have HBE : Hid (B2 = B1) := Lib.hid (by rw [HST.out, if_neg (fun h => h1 h.1)])
              have d1 : decide (0 < wl.length) = false := decide_eq_false h1
              have d2 : decide ((0 : Int) < (wl.length : Int)) = false := decide_eq_false (by omega)
              clear h1
              go_wp2_with fail
              all_goals
                refine ⟨Lib.hid ⟨i + 1, ba, bc, hlt, by go_num, by rw [HB2.out, HBE.out], by rw [HB2.out, HBE.out], by rw [HB2.out, HBE.out]; exact HR7.out, HB7.out, HBL7.out⟩, ?_⟩
                simp [intOf]; omega
            have d1 : decide (0 < wl.length) = true := decide_eq_true h1
            have d2 : decide ((0 : Int) < (wl.length : Int)) = true := decide_eq_true (by omega)
            by_cases h2 : B1.1.length = 0 ∨ wl.length < B1.1.length
            case neg =>
              have HBE : Hid (B2 = B1) := Lib.hid (by rw [HST.out, if_neg (fun h => h2 h.2)])
              have d3 : ((B1.1.length : Int) == 0) = false := beq_eq_false_iff_ne.2 (fun h => h2 (.inl (by omega)))
              have d4 : decide (wl.length < B1.1.length) = false := decide_eq_false (fun h => h2 (.inr h))
              have d5 : decide ((wl.length : Int) < (B1.1.length : Int)) = false := decide_eq_false (fun h => h2 (.inr (by omega)))
              have d6 : ¬ B1.1 = [] := fun e => h2 (.inl (by rw [e]; rfl))
              clear h1 h2
              go_wp2_with fail
              all_goals
                refine ⟨Lib.hid ⟨i + 1, ba, bc, hlt, by go_num, by rw [HB2.out, HBE.out], by rw [HB2.out, HBE.out], by rw [HB2.out, HBE.out]; exact HR7.out, HB7.out, HBL7.out⟩, ?_⟩
                simp [intOf]; omega
            case pos =>
              have HBE : Hid (B2 = (wl, i)) := Lib.hid (by rw [HST.out, if_pos ⟨h1, h2⟩])
              by_cases h3 : B1.1.length = 0
              case pos =>
                have d3 : ((B1.1.length : Int) == 0) = true := beq_iff_eq.2 (by omega)
                have d6 : B1.1 = [] := List.length_eq_zero_iff.1 h3
                clear h1 h2 h3
                go_wp2_with fail
                all_goals
                  refine ⟨Lib.hid ⟨i + 1, pa, pc, hlt, by go_num, by rw [HB2.out, HBE.out], by rw [HB2.out, HBE.out], by rw [HB2.out, HBE.out]; exact HR6.out, HB7.out, HBL7.out⟩, ?_⟩
                  simp [intOf]; omega
              case neg =>
                have d3 : ((B1.1.length : Int) == 0) = false := beq_eq_false_iff_ne.2 (fun h => h3 (by omega))
                have d6 : ¬ B1.1 = [] := fun e => h3 (by rw [e]; rfl)
                have d4 : decide (wl.length < B1.1.length) = true := decide_eq_true (h2.resolve_left h3)
                have d5 : decide ((wl.length : Int) < (B1.1.length : Int)) = true := decide_eq_true (by have := h2.resolve_left h3; omega)
                clear h1 h2 h3
                go_wp2_with fail
                all_goals
                  refine ⟨Lib.hid ⟨i + 1, pa, pc, hlt, by go_num, by rw [HB2.out, HBE.out], by rw [HB2.out, HBE.out], by rw [HB2.out, HBE.out]; exact HR6.out, HB7.out, HBL7.out⟩, ?_⟩
                  simp [intOf]; omega
    case pos =>
      obtain ⟨sb, so, e1, hsb, s0, s1, s2, s3⟩ := HS.out.get (y := keyL (X.getD T[i] default)) (by rw [List.getElem?_map, List.getElem?_eq_getElem hlt]; rfl)
      subst e1
      have hj0 : (0 : Int) ≤ (i : Int) := Int.natCast_nonneg i
      have hj1 : (i : Int) < (T.length : Int) := Int.ofNat_lt.2 hlt
      have hsz := SelAt.below ⟨s0, s1, s2, s3⟩ hsb HBL.out
      have hsbr : sb < wr.heap.size := Nat.lt_of_lt_of_le hsb HBL.out.size
      have HIN : Hid (T[i] ∈ T) := Lib.hid (List.getElem_mem hlt)
      have HTK : Hid (T.take (i + 1) = T.take i ++ [T[i]]) := Lib.hid (List.take_succ_eq_append_getElem hlt)
      have HLK : Hid (lookK X X.length (keyL (X.getD T[i] default)) = some T[i]) := Lib.hid (look_hit (HTM.out _ (List.getElem_mem hlt)) (fun j hj e => by
        have hm := HTM.out _ (List.getElem_mem hlt)
        have := HIX.out.inj (Nat.lt_trans hj hm) hm e
        omega) rfl)
      generalize T[i] = t at *
      obtain ⟨x, hx⟩ : ∃ x, X.getD t default = x := ⟨_, rfl⟩
      have HXX := Lib.hid hx
      rw [hx] at hsz HLK
      clear s0 s1 s2 s3 hx
      have s0 : wr.cell? ⟨sb, so + i * 4, none⟩ = some (.string x.path) := hsz.1
      by_cases hpp : x.path = p
      case neg =>
        have hpb : (x.path.toList == p.toList) = false := by rw [eqs_dec]; exact decide_eq_false hpp
        have HN2 : Hid (o = none → ∀ j ∈ T.take (i + 1), (X.getD j default).path ≠ p) := Lib.hid (fun e j hj => by
          rw [HTK.out] at hj
          rcases List.mem_append.1 hj with h | h
          · exact HO2.out e j h
          · rw [List.mem_singleton.1 h, HXX.out]; exact hpp)
        clear hpp
        go_wp2_with fail
        all_goals
          refine ⟨Lib.hid ⟨i + 1, o, hlt, by go_num, rfl, HO1.out, HN2.out, HB.out, HBL.out⟩, ?_⟩
          simp [intOf]; omega
      case pos =>
        have hpb : (x.path.toList == p.toList) = true := by rw [eqs_dec]; exact decide_eq_true hpp
        have HP2 : Hid (∀ t', some t = some t' → t' ∈ T ∧ (X.getD t' default).path = p) := Lib.hid (fun t' e => by cases e; exact ⟨HIN.out, by rw [HXX.out]; exact hpp⟩)
        clear hpp
        have HSB : Hid (∀ W', Below wr.heap.size wr W' → HeldWy w.heap.size (.slice ao X.length cap) iv sb (so + i * 4) (keyL x) W') := Lib.hid (fun W' hb => ⟨⟨cell_of_row _ _ 0 _ _ _ (HB.out.below hb).idx, cell_of_row _ _ 1 _ _ _ (HB.out.below hb).idx⟩, hsz.below hsbr hb⟩)
        have HPW := Lib.hid (fun W' (hb : Below wr.heap.size wr W') => by have h := HPO.out (keyL x) W' (HB.out.bel.trans (hb.mono HB.out.bel.size)); rw [HLK.out] at h; exact h)
        go_upto_region 9 with fail
        clear s0 hsz
        refine wp_region_noPanic ?_
        refine wp_region_held_drew (S := HeldWy w.heap.size (.slice ao X.length cap) iv sb (so + i * 4) (keyL x)) (by kernel_rfl) (HSB.out _ (Below.refl _ _).drew) (fun hS0 => ?_)
        (refine zl2 (i := 0) (v := ?_) rfl (Or.inl ⟨by rfl, ?_⟩) (by assumption) ?_; rotate_left; (· (rintro w ⟨⟨c0, c1⟩, s0, s1, s2, s3⟩; go_simp; try with_reducible rfl)); (try simp only [zl1, Act.put]))
        (refine zl2 (i := 1) (v := ?_) rfl (Or.inl ⟨by rfl, ?_⟩) (by assumption) ?_; rotate_left; (· (rintro w ⟨⟨c0, c1⟩, s0, s1, s2, s3⟩; go_simp; try with_reducible rfl)); (try simp only [zl1, Act.put]))
        (refine zl2 (i := 2) (v := ?_) rfl (Or.inl ⟨by rfl, ?_⟩) (by assumption) ?_; rotate_left; (· (rintro w ⟨⟨c0, c1⟩, s0, s1, s2, s3⟩; go_simp; try with_reducible rfl)); (try simp only [zl1, Act.put]))
        (refine zl2 (i := 3) (v := ?_) rfl (Or.inl ⟨by rfl, ?_⟩) (by assumption) ?_; rotate_left; (· (rintro w ⟨⟨c0, c1⟩, s0, s1, s2, s3⟩; go_simp; try with_reducible rfl)); (try simp only [zl1, Act.put]))
        (refine zl2 (i := 4) (v := ?_) rfl (Or.inl ⟨by rfl, ?_⟩) (by assumption) ?_; rotate_left; (· (rintro w ⟨⟨c0, c1⟩, s0, s1, s2, s3⟩; go_simp; try with_reducible rfl)); (try simp only [zl1, Act.put]))
        refine wpAnyH_ready (rs := [5]) (by kernel_rfl) (by simp) (AllReadyH.cons rfl (fun K hK => ?_) AllReadyH.nil)
        go_simp
        refine (HPW.out _ (Below.refl wr.heap.size wr).drew).mono ?_
        rintro e w5 ⟨rfl, hb5⟩
        have HB5 := Lib.hid ((Below.refl wr.heap.size wr).drew.trans hb5)
        clear hS0
        have hS0 := HSB.out _ HB5.out
        refine hK.out _ _ hS0 (fun _ => ?_)
        clear hK K hb5
        (try simp only [zl1, Act.put])
        (refine zl2 (i := 6) (v := ?_) rfl (Or.inl ⟨by rfl, ?_⟩) (by assumption) ?_; rotate_left; (· (rintro w ⟨⟨c0, c1⟩, s0, s1, s2, s3⟩; go_simp; try with_reducible rfl)); (try simp only [zl1, Act.put]))
        refine wpAnyH_done (by kernel_rfl) ?_ _
        refine NoPanic.normal ?_
        have HB6 := Lib.hid (HB.out.below HB5.out)
        have HBL6 := Lib.hid (HBL.out.trans (HB5.out.mono HBL.out.size))
        clear HSB HPW hS0 HB5 HB HBL
        go_wp2_with fail
        all_goals
          refine ⟨Lib.hid ⟨i + 1, some t, hlt, by go_num, rfl, HP2.out, (fun e => by cases e), HB6.out, HBL6.out⟩, ?_⟩
          simp [intOf]; omega
end Go.Proofs.YtenfkejbndifdaaGreatDoor

namespace Go.Proofs.YtenfkejbndifdaaGreatDoor
set_option linter.unusedVariables false
set_option linter.unusedSimpArgs false
open Go Go.RowKit

structure CauBB (w : World) (a0 a1 a2 b0 b1 b2 : Value) (W : World) : Prop where
  bel : Below w.heap.size w W
  a : W.heap[w.heap.size]? = some (.cells #[a0, a1, a2] 29 (0, 0))
  b : W.heap[w.heap.size + 1]? = some (.cells #[b0, b1, b2] 29 (0, 0))
theorem CauBB.lt {w : World} {a0 a1 a2 b0 b1 b2 : Value} {W : World} (h : CauBB w a0 a1 a2 b0 b1 b2 W) : w.heap.size + 1 < W.heap.size := (Array.getElem?_eq_some_iff.1 h.b).1
theorem CauBB.below {w : World} {a0 a1 a2 b0 b1 b2 : Value} {W W' : World} (h : CauBB w a0 a1 a2 b0 b1 b2 W) (hb : Below W.heap.size W W') : CauBB w a0 a1 a2 b0 b1 b2 W' := by
  have hl := h.lt
  exact ⟨h.bel.trans (hb.mono h.bel.size), (hb.block _ (by omega)).trans h.a, (hb.block _ hl).trans h.b⟩
theorem CauBB.start (w : World) (a0 a1 a2 b0 b1 b2 : Value) : CauBB w a0 a1 a2 b0 b1 b2 ((w.alloc (.cells #[a0, a1, a2] 29)).alloc (.cells #[b0, b1, b2] 29)) := by
  have hget : ∀ (w : World) (o : Obj) (k : Nat), (w.alloc o).heap[k]? = if k = w.heap.size then some o else w.heap[k]? := fun w o k => by
    show (w.heap.push o)[k]? = _
    rw [Array.getElem?_push]
  refine ⟨(by repeat (first | exact Below.refl _ _ | refine Below.drew ?_ | refine Below.alloc ?_ (by simp <;> omega) _ | refine Below.setCell ?_ (by simp <;> omega) _)), ?_, ?_⟩
  · simp only [hget, World.size_alloc]; repeat (first | rw [if_pos trivial] | rw [if_neg (by omega)] | rw [if_pos (by omega)])
  · simp only [hget, World.size_alloc]; repeat (first | rw [if_pos trivial] | rw [if_neg (by omega)] | rw [if_pos (by omega)])
def HeldCC (g : Nat) (a0 a1 a2 b0 b1 b2 : Value) (W : World) : Prop := (W.cell? ⟨g, 0, none⟩ = some a0 ∧ W.cell? ⟨g, 1, none⟩ = some a1 ∧ W.cell? ⟨g, 2, none⟩ = some a2) ∧ W.cell? ⟨g + 1, 0, none⟩ = some b0 ∧ W.cell? ⟨g + 1, 1, none⟩ = some b1 ∧ W.cell? ⟨g + 1, 2, none⟩ = some b2
theorem CauBB.held {w : World} {a0 a1 a2 b0 b1 b2 : Value} {W : World} (h : CauBB w a0 a1 a2 b0 b1 b2 W) : ∀ W', Below W.heap.size W W' → HeldCC w.heap.size a0 a1 a2 b0 b1 b2 W' := fun W' hw => by
  have h2 := h.below hw
  exact ⟨⟨cell_of_row _ _ 0 _ _ _ h2.a, cell_of_row _ _ 1 _ _ _ h2.a, cell_of_row _ _ 2 _ _ _ h2.a⟩, cell_of_row _ _ 0 _ _ _ h2.b, cell_of_row _ _ 1 _ _ _ h2.b, cell_of_row _ _ 2 _ _ _ h2.b⟩
set_option maxRecDepth 100000 in
set_option maxHeartbeats 8000000 in
theorem sameCause_any (v u : Value) (p1 p2 : ByteArray) (r1 r2 : Int) (a b : List SelL) (w : World) (ha : a.length ≤ 1000000) (hb : b.length ≤ 1000000) (hA : SelsOf w.heap.size v a w) (hB : SelsOf w.heap.size u b w) :
    Calls Tryz.prog 15 #[.agg #[.string p1, .int .i64 r1, v], .agg #[.string p2, .int .i64 r2, u]] w fun e w' => e = .returned (.bool (decide (p1 = p2 ∧ r1 = r2 ∧ a = b))) ∧ Below w.heap.size w w' := by
  have HSS := Lib.hid (fun W (hbw : Below w.heap.size w W) => sameSels_any v u a b W ha hb (hA.on hbw) (hB.on hbw))
  obtain ⟨va, vc, rfl⟩ : ∃ ra rc, v = .slice ra a.length rc := by obtain ⟨a, c, e, _⟩ := hA; exact ⟨a, c, e⟩
  obtain ⟨ua, uc, rfl⟩ : ∃ ra rc, u = .slice ra b.length rc := by obtain ⟨a, c, e, _⟩ := hB; exact ⟨a, c, e⟩
  clear hA hB ha hb
  obtain ⟨R, hRes⟩ : ∃ R, decide (p1 = p2 ∧ r1 = r2 ∧ a = b) = R := ⟨_, rfl⟩
  have HRES := Lib.hid hRes
  rw [hRes]
  clear hRes
  have HB0 := Lib.hid (CauBB.start w (.string p1) (.int .i64 r1) (.slice va a.length vc) (.string p2) (.int .i64 r2) (.slice ua b.length uc))
  by_cases hp : p1 = p2
  case neg =>
    have hpb : (p1.toList == p2.toList) = false := by rw [eqs_dec]; exact decide_eq_false hp
    have HM : Hid (R = false) := Lib.hid (by rw [← HRES.out]; exact decide_eq_false (fun h => hp h.1))
    clear hp
    go_enter Tryz.func15, Tryz.ntmps15
    go_upto_region 1 with fail
    generalize (w.alloc (.cells #[.string p1, .int .i64 r1, .slice va a.length vc] 29)).alloc (.cells #[.string p2, .int .i64 r2, .slice ua b.length uc] 29) = W at *
    obtain ⟨⟨a0, a1, a2⟩, b0, b1, b2⟩ := HB0.out.held W (Below.refl _ _)
    go_wp2_with fail
    go_ret
    exact ⟨by rw [HM.out]; rfl, HB0.out.bel⟩
  case pos =>
    have hpb : (p1.toList == p2.toList) = true := by rw [eqs_dec]; exact decide_eq_true hp
    by_cases hr : r1 = r2
    case neg =>
      have hrb : (r1 == r2) = false := beq_eq_false_iff_ne.2 hr
      have HM : Hid (R = false) := Lib.hid (by rw [← HRES.out]; exact decide_eq_false (fun h => hr h.2.1))
      clear hp hr
      go_enter Tryz.func15, Tryz.ntmps15
      go_upto_region 1 with fail
      generalize (w.alloc (.cells #[.string p1, .int .i64 r1, .slice va a.length vc] 29)).alloc (.cells #[.string p2, .int .i64 r2, .slice ua b.length uc] 29) = W at *
      obtain ⟨⟨a0, a1, a2⟩, b0, b1, b2⟩ := HB0.out.held W (Below.refl _ _)
      go_wp2_with fail
      go_ret
      exact ⟨by rw [HM.out]; rfl, HB0.out.bel⟩
    case pos =>
      have hrb : (r1 == r2) = true := beq_iff_eq.2 hr
      have HM : Hid (R = decide (a = b)) := Lib.hid (by rw [← HRES.out]; exact decide_eq_decide.2 ⟨fun h => h.2.2, fun h => ⟨hp, hr, h⟩⟩)
      clear hp hr
      obtain ⟨d, hd⟩ : ∃ d, decide (a = b) = d := ⟨_, rfl⟩
      rw [hd] at HM HSS
      clear hd
      go_enter Tryz.func15, Tryz.ntmps15
      go_upto_region 1 with fail
      generalize (w.alloc (.cells #[.string p1, .int .i64 r1, .slice va a.length vc] 29)).alloc (.cells #[.string p2, .int .i64 r2, .slice ua b.length uc] 29) = W at *
      obtain ⟨⟨a0, a1, a2⟩, b0, b1, b2⟩ := HB0.out.held W (Below.refl _ _)
      go_wp2_with fail
      refine (HSS.out W HB0.out.bel).mono ?_
      rintro e w1 ⟨rfl, hb1⟩
      have HB1 := Lib.hid (HB0.out.bel.trans (hb1.mono HB0.out.bel.size))
      clear hb1
      go_wp2_with fail
      go_ret
      exact ⟨by rw [HM.out]; rfl, HB1.out⟩
end Go.Proofs.YtenfkejbndifdaaGreatDoor
