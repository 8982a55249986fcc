/- The law MvsCauses returns true. -/
import Derived.Test.YtenfkejbndifdaaGreatDoorRN
import Derived.Test.YtenfkejbndifdaaGreatDoorQO
namespace Go.Proofs.YtenfkejbndifdaaGreatDoor
set_option linter.unusedVariables false
set_option linter.unusedSimpArgs false
open Go Go.RowKit

def HeldV (g gk gy cb co : Nat) (xv iv kv : Value) (p : ByteArray) (r : Int) (y : SelL) (W : World) : Prop :=
  (W.cell? ⟨g, 0, none⟩ = some xv ∧ W.cell? ⟨g, 1, none⟩ = some iv) ∧ (W.cell? ⟨gk, 0, none⟩ = some (.string p) ∧ W.cell? ⟨gk, 1, none⟩ = some (.int .i64 r) ∧ W.cell? ⟨gk, 2, none⟩ = some kv) ∧
  (W.cell? ⟨gy, 0, none⟩ = some (.string y.1) ∧ W.cell? ⟨gy, 1, none⟩ = some (.int .i64 y.2.1) ∧ W.cell? ⟨gy, 2, none⟩ = some (.int .i64 y.2.2.1) ∧ W.cell? ⟨gy, 3, none⟩ = some (.int .i64 y.2.2.2)) ∧
  (W.cell? ⟨cb, co, none⟩ = some (.string y.1) ∧ W.cell? ⟨cb, co + 1, none⟩ = some (.int .i64 y.2.1) ∧ W.cell? ⟨cb, co + 2, none⟩ = some (.int .i64 y.2.2.1) ∧ W.cell? ⟨cb, co + 3, none⟩ = some (.int .i64 y.2.2.2))
theorem HeldV.below {g gk gy cb co : Nat} {xv iv kv : Value} {p : ByteArray} {r : Int} {y : SelL} {W W' : World} (h : HeldV g gk gy cb co xv iv kv p r y W) (h1 : g < W.heap.size) (h2 : gk < W.heap.size) (h3 : gy < W.heap.size) (h4 : cb < W.heap.size) (hb : Below W.heap.size W W') : HeldV g gk gy cb co xv iv kv p r y W' := by
  obtain ⟨⟨a0, a1⟩, ⟨b0, b1, b2⟩, ⟨c0, c1, c2, c3⟩, d0, d1, d2, d3⟩ := h
  have k1 : ∀ j, W'.cell? ⟨g, j, none⟩ = W.cell? ⟨g, j, none⟩ := fun j => hb.cell (p := ⟨g, j, none⟩) h1
  have k2 : ∀ j, W'.cell? ⟨gk, j, none⟩ = W.cell? ⟨gk, j, none⟩ := fun j => hb.cell (p := ⟨gk, j, none⟩) h2
  have k3 : ∀ j, W'.cell? ⟨gy, j, none⟩ = W.cell? ⟨gy, j, none⟩ := fun j => hb.cell (p := ⟨gy, j, none⟩) h3
  have k4 : ∀ j, W'.cell? ⟨cb, j, none⟩ = W.cell? ⟨cb, j, none⟩ := fun j => hb.cell (p := ⟨cb, j, none⟩) h4
  exact ⟨⟨(k1 _).trans a0, (k1 _).trans a1⟩, ⟨(k2 _).trans b0, (k2 _).trans b1, (k2 _).trans b2⟩, ⟨(k3 _).trans c0, (k3 _).trans c1, (k3 _).trans c2, (k3 _).trans c3⟩, (k4 _).trans d0, (k4 _).trans d1, (k4 _).trans d2, (k4 _).trans d3⟩
theorem SelsOf.first {B : Nat} {ao : Option Addr} {n cap : Nat} {s : List SelL} {W : World} (h : SelsOf B (.slice ao n cap) s W) {j : Nat} (hj : j ≤ s.length) : SelsOf B (.slice ao j cap) (s.take j) W := by
  obtain ⟨a, c, e, h⟩ := h
  cases e
  refine ⟨ao, cap, by rw [List.length_take, Nat.min_eq_left hj], fun i q hq => ?_⟩
  rw [List.getElem?_take] at hq
  split at hq
  · exact h i q hq
  · cases hq
theorem size_ok {p : ByteArray} (h : p.size ≤ 1000000) : ¬ 9223372036854775807 < p.size + 1 := by omega
theorem selM_size {nw : Bool} {X : List RelL} {roots : List ReqL} (hq : ∀ x ∈ X, RelBd x) {y : SelL} (h : y ∈ (selM nw X roots).1) : y.1.size ≤ 1000000 := by
  obtain ⟨_, i, hi, rfl⟩ := selM_mem h
  have hil := (topM_mem.1 hi).1.lt.1
  exact (hq _ (by rw [List.getD_eq_getElem?_getD, List.getElem?_eq_getElem hil]; exact List.getElem_mem hil)).path
theorem i64_pred {k : Nat} (h : k ≤ 1000000000) : IntKind.i64.wrap (((k + 1 : Nat) : Int) - 1) = (k : Int) := by rw [IntWalk.i64_in _ (by omega)]; omega
theorem succ_ne0 (n : Nat) : (((n + 1 : Nat) : Int) == 0) = false := by simp; omega
theorem why_len {X : List RelL} {roots : List ReqL} {y : SelL} {r : Nat} {ch : List SelL} (h : whyV X roots y.1 = ((y.1, (r : Int), ch), 0)) (hX : X.length ≤ 1000) : ch.length ≤ 1000000 := by
  have hc := congrArg (fun z : CauL × Int => z.1.2.2) h
  simp only at hc
  rw [← hc]
  unfold whyV
  split
  · simp
  · split
    · simp
    · rename_i t ht
      split
      · simp
      · rename_i b hb
        simp only [List.length_map]
        unfold pathF
        simp only
        split
        · simp
        · have htl : t < X.length := by
            unfold tgtM at ht
            exact (topM_mem.1 (List.mem_of_find?_eq_some ht)).1.lt.1
          have h1 := desc_len (sucs X.length (relEs X)) (dT X t) (gD (dT X t) ((namedI false X (roots.getD b default)).getD 0)).toNat ((namedI false X (roots.getD b default)).getD 0)
          have h2 := dD_bound htl ((namedI false X (roots.getD b default)).getD 0)
          unfold dD at h2
          have h3 : (gD (dT X t) ((namedI false X (roots.getD b default)).getD 0)).toNat ≤ X.length := by omega
          exact Nat.le_trans h1 (by omega)
set_option maxRecDepth 100000 in
set_option maxHeartbeats 16000000 in
theorem MvsCauses_any (a : Option Addr) (c : Nat) (iv : Value) (X : List RelL) (rov : Value) (roots : List ReqL) (w : World) (hm : MaxOk w) (h0 : RelsOf w.heap.size (.slice a X.length c) X w ∧ X.length ≤ maxLen ∧ ∀ x ∈ X, x.reqs.length ≤ maxLen)
    (h1 : ReqsOf w.heap.size rov roots w ∧ roots.length ≤ maxLen) (hcap : CapOk rov) : Calls Tryz.prog 4 #[.agg #[.slice a X.length c, iv], rov] w fun e w' => e = .returned (.bool true) ∧ Below w.heap.size w w' := by
  obtain ⟨hR, hX, hXr⟩ := h0
  obtain ⟨hRo, hro⟩ := h1
  have HM := Lib.hid hm
  have HR := Lib.hid hR
  have HRo := Lib.hid hRo
  have HCAP := Lib.hid hcap
  obtain ⟨ra, rc, rfl⟩ : ∃ ra rc, rov = .slice ra roots.length rc := by obtain ⟨a, c, e, _⟩ := hRo; exact ⟨a, c, e⟩
  have HAW := Lib.hid (fun W (hb : RowKit.Below w.heap.size w W) => awake34_any W (hm.below hb hm.pos))
  have HFEW := Lib.hid (fun W (hb : RowKit.Below w.heap.size w W) => few34_any a c iv (.slice ra roots.length rc) X roots W hX hXr (hR.on hb) hro (hRo.on hb))
  clear hm hR hRo hcap
  have HB0 := Lib.hid (LawB.start w (.slice a X.length c) iv)
  go_enter Tryz.func4, Tryz.ntmps4
  go_upto_region 1 with fail
  generalize w.alloc (.cells #[.slice a X.length c, iv] 25) = W at *
  go_wp2_with fail
  refine (HAW.out _ HB0.out.bel).mono ?_
  rintro e w1 ⟨rfl, hb1⟩
  have HB1 := Lib.hid (HB0.out.below hb1)
  clear hb1 HAW
  have c0 := HB1.out.c0
  have c1 := HB1.out.c1
  go_wp2_with fail
  refine (HFEW.out _ HB1.out.bel).mono ?_
  rintro e w2 ⟨fb, rfl, hfb, hb2⟩
  have HB2 := Lib.hid (HB1.out.below hb2)
  have HFB := Lib.hid hfb
  clear hb2 hfb HFEW c0 c1
  cases fb with
  | false =>
    go_wp2_with fail
    go_ret
    exact ⟨rfl, HB2.out.bel⟩
  | true =>
    have HRB := Lib.hid (HFB.out rfl).1.bd
    have HQB := Lib.hid (HFB.out rfl).2.bd
    have hX2 : X.length ≤ 20 := (HFB.out rfl).1.len
    have hro2 : roots.length ≤ 1000000 := by have := (HFB.out rfl).2.len; omega
    have HSE := Lib.hid (fun W (hb : RowKit.Below w.heap.size w W) => MSelect_any (.slice a X.length c) iv (.slice ra roots.length rc) X roots W (HM.out.below hb HM.out.pos) (by omega) HRB.out (HR.out.on hb) hro2 HQB.out (HRo.out.on hb))
    have HWY := Lib.hid (fun W p (hb : RowKit.Below w.heap.size w W) => Why_any (.slice a X.length c) iv (.slice ra roots.length rc) X roots p W (HM.out.below hb HM.out.pos) (by omega) HRB.out (HR.out.on hb) hro2 HQB.out (HRo.out.on hb))
    have HCK := Lib.hid (fun W p (r : Int) ch cv (hb : RowKit.Below w.heap.size w W) (hch : List.length ch ≤ 1000000) (hC : SelsOf W.heap.size cv ch W) => Check_any (.slice a X.length c) iv (.slice ra roots.length rc) cv X roots p r ch W (HM.out.below hb HM.out.pos) (by omega) HRB.out (HR.out.on hb) hro2 HQB.out (HRo.out.on hb) HCAP.out hch hC)
    have HL1 : Hid ((selM false X roots).1.length ≤ X.length) := Lib.hid selM_len
    have HZ1 : Hid ((selM false X roots).2 = 0 → PlainP X roots ∧ AllM false X roots) := Lib.hid selM_zero
    have HCC : Hid (PlainP X roots → AllM false X roots → ∀ y ∈ (selM false X roots).1, ∃ (r n : Nat) (ch : List SelL), whyV X roots y.1 = ((y.1, (r : Int), ch), 0) ∧ r < roots.length ∧ ch.length = n + 1 ∧ ch[n]? = some y ∧ checkV X roots (y.1, (r : Int), ch) = true ∧ checkV X roots (y.1, (r : Int), ch.take n) = false ∧
      checkV X roots (path0 y.1, (r : Int), ch) = false ∧ checkV X roots (y.1, (roots.length : Int), ch) = false) := Lib.hid (fun hp ha y hy => cause_checks hp ha hy)
    have HYZ : Hid (∀ y ∈ (selM false X roots).1, y.1.size ≤ 1000000) := Lib.hid (fun y hy => selM_size HRB.out hy)
    unfold SelR at HSE
    generalize selM false X roots = SM at *
    obtain ⟨s, E⟩ := SM
    simp only at HSE HZ1 HL1 HCC HYZ
    have hls := HL1.out
    have c0 := HB2.out.c0
    have c1 := HB2.out.c1
    go_wp2_with fail
    refine (HSE.out _ HB2.out.bel).mono ?_
    rintro e w3 ⟨hb3, sv, rfl, hs3⟩
    have HB3 := Lib.hid (HB2.out.below hb3)
    have HS3 := Lib.hid hs3
    obtain ⟨sa, sc, rfl⟩ : ∃ sa sc, sv = .slice sa s.length sc := by obtain ⟨a, c, e, _⟩ := hs3; exact ⟨a, c, e⟩
    clear hb3 hs3 c0 c1 HSE
    by_cases hE : E = 0
    case neg =>
      have hE2 : (E != 0) = true := by simpa using hE
      go_wp2_with fail
      go_ret
      exact ⟨rfl, HB3.out.bel⟩
    subst hE
    obtain ⟨hp, ha⟩ := HZ1.out rfl
    have HCY := Lib.hid (HCC.out hp ha)
    have HWE := Lib.hid (why_empty hp ha)
    clear hp ha HCC HZ1
    have hs3 := HB3.out.bel.size
    go_wp2_with fail
    go_loopw [29] (fun p wr => ∃ k : Nat, k ≤ s.length ∧ p = .int .i64 (k : Int) ∧ Hid (Below w3.heap.size w3 wr)) (fun p _ => s.length - (intOf p).toNat)
    case atStart => exact ⟨0, Nat.zero_le _, rfl, Lib.hid (Below.refl _ _)⟩
    case round =>
      obtain ⟨k, hk, rfl, HW⟩ := hrel
      have HBr := Lib.hid (HB3.out.below HW.out)
      by_cases hlk : k < s.length
      case neg =>
        have hkk : k = s.length := Nat.le_antisymm hk (Nat.le_of_not_lt hlk)
        subst hkk
        have HWX := Lib.hid (HWY.out wr ⟨#[]⟩ HBr.out.bel)
        unfold WhyR at HWX
        rw [HWE.out] at HWX
        have c0 := HBr.out.c0
        have c1 := HBr.out.c1
        go_wp2_with fail
        refine HWX.out.mono ?_
        rintro e w4 ⟨hb4, v, rfl, _⟩
        have HBF := Lib.hid (HBr.out.bel.trans (hb4.mono HBr.out.bel.size))
        clear hb4 HWX c0 c1
        go_wp2_with fail
        go_ret
        exact ⟨rfl, HBF.out⟩
      case pos =>
        obtain ⟨ab, ao, rfl, hab, a0, a1, a2, a3⟩ := HS3.out.get (List.getElem?_eq_getElem hlk)
        have a0 := (HW.out.cell (p := ⟨ab, ao + k * 4, none⟩) hab).trans a0
        have a1 := (HW.out.cell (p := ⟨ab, ao + k * 4 + 1, none⟩) hab).trans a1
        have a2 := (HW.out.cell (p := ⟨ab, ao + k * 4 + 2, none⟩) hab).trans a2
        have a3 := (HW.out.cell (p := ⟨ab, ao + k * 4 + 3, none⟩) hab).trans a3
        have hk1 : (0 : Int) ≤ (k : Int) := Int.natCast_nonneg k
        have hk2 : (k : Int) < (s.length : Int) := Int.ofNat_lt.2 hlk
        obtain ⟨r, n, ch, hw1, hrl, hcl, hcn, hv1, hv2, hv3, hv4⟩ := HCY.out s[k] (List.getElem_mem hlk)
        have hys := size_ok (HYZ.out s[k] (List.getElem_mem hlk))
        generalize s[k] = y at *
        have HV1 := Lib.hid hv1
        have HV2 := Lib.hid hv2
        have HV3 := Lib.hid hv3
        have HV4 := Lib.hid hv4
        have HCN := Lib.hid hcn
        have HCLN := Lib.hid hcl
        have HW1 := Lib.hid hw1
        have hch20 : ch.length ≤ 1000000 := why_len hw1 (by omega)
        clear hv1 hv2 hv3 hv4 hcn hw1 hcl
        have HXY := Lib.hid (show SelBox (wr.alloc (.cells #[.string y.1, .int .i64 y.2.1, .int .i64 y.2.2.1, .int .i64 y.2.2.2] 43)) wr.heap.size y from World.alloc_heap_new wr _)
        have HBA := Lib.hid (belQ wr (.cells #[.string y.1, .int .i64 y.2.1, .int .i64 y.2.2.1, .int .i64 y.2.2.2] 43))
        go_upto_region 11 with fail
        generalize wr.alloc (.cells #[.string y.1, .int .i64 y.2.1, .int .i64 y.2.2.1, .int .i64 y.2.2.2] 43) = W5 at *
        have HB5 := Lib.hid (HBr.out.below HBA.out)
        have HW5 := Lib.hid (HW.out.trans (HBA.out.mono HW.out.size))
        generalize wr.heap.size = gy at *
        clear a0 a1 a2 a3 HBA HW HBr
        have HWX := Lib.hid (HWY.out W5 y.1 HB5.out.bel)
        unfold WhyR at HWX
        rw [HW1.out] at HWX
        have c0 := HB5.out.c0
        have c1 := HB5.out.c1
        have z0 : W5.cell? ⟨gy, 0, none⟩ = some (.string y.1) := cell_of_row _ _ 0 _ _ _ HXY.out
        go_wp2_with fail
        refine HWX.out.mono ?_
        rintro e w6 ⟨hb6, cv, rfl, hc6, hcc6⟩
        obtain ⟨ca, cc, rfl⟩ : ∃ sa sc, cv = .slice sa ch.length sc := by obtain ⟨a, c, e, _⟩ := hc6; exact ⟨a, c, e⟩
        have HB6 := Lib.hid (HB5.out.below hb6)
        have HXY6 := Lib.hid (HXY.out.on hb6)
        have HC6 := Lib.hid hc6
        have hccl := hcc6.le
        have HW6 := Lib.hid (HW5.out.trans (hb6.mono HW5.out.size))
        clear hb6 hc6 hcc6 c0 c1 z0 HB5 HXY HW5 HWX
        simp only
        have HK7 := Lib.hid (World.alloc_heap_new w6 (.cells #[.string y.1, .int .i64 (r : Int), .slice ca ch.length cc] 29))
        have HBQ := Lib.hid (belQ w6 (.cells #[.string y.1, .int .i64 (r : Int), .slice ca ch.length cc] 29))
        have hgk : w6.heap.size < (w6.alloc (.cells #[.string y.1, .int .i64 (r : Int), .slice ca ch.length cc] 29)).heap.size := by simp
        go_upto_region 12 with fail
        generalize w6.alloc (.cells #[.string y.1, .int .i64 (r : Int), .slice ca ch.length cc] 29) = W7 at *
        have HB7 := Lib.hid (HB6.out.below HBQ.out)
        have HXY7 := Lib.hid (HXY6.out.on HBQ.out)
        have HC7 := Lib.hid (HC6.out.on HBQ.out)
        have HW7 := Lib.hid (HW6.out.trans (HBQ.out.mono HW6.out.size))
        generalize w6.heap.size = gk at *
        clear HB6 HXY6 HC6 HW6 HBQ
        obtain ⟨cb, co, rfl, hcb, d0, d1, d2, d3⟩ := HC7.out.get HCN.out
        have hgx : w.heap.size < W7.heap.size := HB7.out.lt
        have hgy : gy < W7.heap.size := (Array.getElem?_eq_some_iff.1 HXY7.out).1
        have HH0 : Hid (HeldV w.heap.size gk gy cb (co + n * 4) (.slice a X.length c) iv (.slice (some ⟨cb, co, none⟩) ch.length cc) y.1 (r : Int) y W7) := Lib.hid ⟨⟨HB7.out.c0, HB7.out.c1⟩, ⟨cell_of_row _ _ 0 _ _ _ HK7.out, cell_of_row _ _ 1 _ _ _ HK7.out, cell_of_row _ _ 2 _ _ _ HK7.out⟩, ⟨cell_of_row _ _ 0 _ _ _ HXY7.out, cell_of_row _ _ 1 _ _ _ HXY7.out, cell_of_row _ _ 2 _ _ _ HXY7.out, cell_of_row _ _ 3 _ _ _ HXY7.out⟩, d0, d1, d2, d3⟩
        have HSB : Hid (∀ W', Below W7.heap.size W7 W' → HeldV w.heap.size gk gy cb (co + n * 4) (.slice a X.length c) iv (.slice (some ⟨cb, co, none⟩) ch.length cc) y.1 (r : Int) y W') := Lib.hid (fun W' hb => HH0.out.below hgx hgk hgy hcb hb)
        clear d0 d1 d2 d3
        have hn20 : n ≤ 1000000000 := by have := hch20; have := HCLN.out; omega
        have hsub : wrap64 ((ch.length : Int) - 1) = (n : Int) := by rw [HCLN.out]; exact wrap_pred hn20
        have hsub2 : IntKind.i64.wrap ((ch.length : Int) - 1) = (n : Int) := by rw [HCLN.out]; exact i64_pred hn20
        have hlz : ((ch.length : Int) == 0) = false := by rw [HCLN.out]; exact succ_ne0 n
        have hlz2 : ¬ ch.length = 0 := by rw [HCLN.out]; exact Nat.succ_ne_zero n
        have hn0 : (0 : Int) ≤ (n : Int) := Int.natCast_nonneg n
        have hn1 : (n : Int) < (ch.length : Int) := by rw [HCLN.out]; exact Int.ofNat_lt.2 (Nat.lt_succ_self n)
        have hq1 : ∀ W, (binOp .neq 43 (.agg #[.string y.1, .int .i64 y.2.1, .int .i64 y.2.2.1, .int .i64 y.2.2.2]) (.agg #[.string y.1, .int .i64 y.2.1, .int .i64 y.2.2.1, .int .i64 y.2.2.2])).run Tryz.prog W = .ok (.bool false) W := fun W => by
          have h := sel_neq.1 y y W
          rw [show (!decide (y = y)) = false by simp] at h
          exact h
        have HCA := Lib.hid (HCK.out W7.drew y.1 (r : Int) ch (.slice (some ⟨cb, co, none⟩) ch.length cc) (HB7.out.bel.drew) hch20 (HC7.out.on (Below.refl W7.heap.size W7).drew))
        rw [HV1.out] at HCA
        refine wp_region_noPanic ?_
        refine wp_region_held_drew (S := HeldV w.heap.size gk gy cb (co + n * 4) (.slice a X.length c) iv (.slice (some ⟨cb, co, none⟩) ch.length cc) y.1 (r : Int) y) (by kernel_rfl) (HSB.out _ (Below.refl _ _).drew) (fun hS0 => ?_)
        (refine wpAnyH_take (i := 0) (v := ?_) rfl (by kernel_rfl) (by kernel_rfl) (by kernel_rfl) (fun _ _ _ h => h) (Or.inl ⟨by rfl, ?_⟩) (by assumption) ?_; rotate_left; (· (intro w hSw; obtain ⟨⟨x0, x1⟩, ⟨k0, k1, k2⟩, ⟨z0, z1, z2, z3⟩, d0, d1, d2, d3⟩ := hSw; go_simp; try with_reducible rfl)); (try simp only [zl1, zl2, zl3, Act.put, zl4, zl5, zl6]))
        (refine wpAnyH_take (i := 1) (v := ?_) rfl (by kernel_rfl) (by kernel_rfl) (by kernel_rfl) (fun _ _ _ h => h) (Or.inl ⟨by rfl, ?_⟩) (by assumption) ?_; rotate_left; (· (intro w hSw; obtain ⟨⟨x0, x1⟩, ⟨k0, k1, k2⟩, ⟨z0, z1, z2, z3⟩, d0, d1, d2, d3⟩ := hSw; go_simp; try with_reducible rfl)); (try simp only [zl1, zl2, zl3, Act.put, zl4, zl5, zl6]))
        (refine wpAnyH_take (i := 2) (v := ?_) rfl (by kernel_rfl) (by kernel_rfl) (by kernel_rfl) (fun _ _ _ h => h) (Or.inl ⟨by rfl, ?_⟩) (by assumption) ?_; rotate_left; (· (intro w hSw; obtain ⟨⟨x0, x1⟩, ⟨k0, k1, k2⟩, ⟨z0, z1, z2, z3⟩, d0, d1, d2, d3⟩ := hSw; go_simp; try with_reducible rfl)); (try simp only [zl1, zl2, zl3, Act.put, zl4, zl5, zl6]))
        (refine wpAnyH_take (i := 3) (v := ?_) rfl (by kernel_rfl) (by kernel_rfl) (by kernel_rfl) (fun _ _ _ h => h) (Or.inl ⟨by rfl, ?_⟩) (by assumption) ?_; rotate_left; (· (intro w hSw; obtain ⟨⟨x0, x1⟩, ⟨k0, k1, k2⟩, ⟨z0, z1, z2, z3⟩, d0, d1, d2, d3⟩ := hSw; go_simp; try with_reducible rfl)); (try simp only [zl1, zl2, zl3, Act.put, zl4, zl5, zl6]))
        (refine wpAnyH_take (i := 4) (v := ?_) rfl (by kernel_rfl) (by kernel_rfl) (by kernel_rfl) (fun _ _ _ h => h) (Or.inl ⟨by rfl, ?_⟩) (by assumption) ?_; rotate_left; (· (intro w hSw; obtain ⟨⟨x0, x1⟩, ⟨k0, k1, k2⟩, ⟨z0, z1, z2, z3⟩, d0, d1, d2, d3⟩ := hSw; go_simp; try with_reducible rfl)); (try simp only [zl1, zl2, zl3, Act.put, zl4, zl5, zl6]))
        (refine wpAnyH_take (i := 5) (v := ?_) rfl (by kernel_rfl) (by kernel_rfl) (by kernel_rfl) (fun _ _ _ h => h) (Or.inl ⟨by rfl, ?_⟩) (by assumption) ?_; rotate_left; (· (intro w hSw; obtain ⟨⟨x0, x1⟩, ⟨k0, k1, k2⟩, ⟨z0, z1, z2, z3⟩, d0, d1, d2, d3⟩ := hSw; go_simp; try with_reducible rfl)); (try simp only [zl1, zl2, zl3, Act.put, zl4, zl5, zl6]))
        (refine wpAnyH_take (i := 6) (v := ?_) rfl (by kernel_rfl) (by kernel_rfl) (by kernel_rfl) (fun _ _ _ h => h) (Or.inl ⟨by rfl, ?_⟩) (by assumption) ?_; rotate_left; (· (intro w hSw; obtain ⟨⟨x0, x1⟩, ⟨k0, k1, k2⟩, ⟨z0, z1, z2, z3⟩, d0, d1, d2, d3⟩ := hSw; go_simp; try with_reducible rfl)); (try simp only [zl1, zl2, zl3, Act.put, zl4, zl5, zl6]))
        (refine wpAnyH_take (i := 7) (v := ?_) rfl (by kernel_rfl) (by kernel_rfl) (by kernel_rfl) (fun _ _ _ h => h) (Or.inl ⟨by rfl, ?_⟩) (by assumption) ?_; rotate_left; (· (intro w hSw; obtain ⟨⟨x0, x1⟩, ⟨k0, k1, k2⟩, ⟨z0, z1, z2, z3⟩, d0, d1, d2, d3⟩ := hSw; go_simp; try with_reducible rfl)); (try simp only [zl1, zl2, zl3, Act.put, zl4, zl5, zl6]))
        (refine wpAnyH_take (i := 8) (v := ?_) rfl (by kernel_rfl) (by kernel_rfl) (by kernel_rfl) (fun _ _ _ h => h) (Or.inl ⟨by rfl, ?_⟩) (by assumption) ?_; rotate_left; (· (intro w hSw; obtain ⟨⟨x0, x1⟩, ⟨k0, k1, k2⟩, ⟨z0, z1, z2, z3⟩, d0, d1, d2, d3⟩ := hSw; go_simp; try with_reducible rfl)); (try simp only [zl1, zl2, zl3, Act.put, zl4, zl5, zl6]))
        (refine wpAnyH_take (i := 9) (v := ?_) rfl (by kernel_rfl) (by kernel_rfl) (by kernel_rfl) (fun _ _ _ h => h) (Or.inl ⟨by rfl, ?_⟩) (by assumption) ?_; rotate_left; (· (intro w hSw; obtain ⟨⟨x0, x1⟩, ⟨k0, k1, k2⟩, ⟨z0, z1, z2, z3⟩, d0, d1, d2, d3⟩ := hSw; go_simp; try with_reducible rfl)); (try simp only [zl1, zl2, zl3, Act.put, zl4, zl5, zl6]))
        (refine wpAnyH_take (i := 10) (v := ?_) rfl (by kernel_rfl) (by kernel_rfl) (by kernel_rfl) (fun _ _ _ h => h) (Or.inl ⟨by rfl, ?_⟩) (by assumption) ?_; rotate_left; (· (intro w hSw; obtain ⟨⟨x0, x1⟩, ⟨k0, k1, k2⟩, ⟨z0, z1, z2, z3⟩, d0, d1, d2, d3⟩ := hSw; go_simp; try with_reducible rfl)); (try simp only [zl1, zl2, zl3, Act.put, zl4, zl5, zl6]))
        (refine wpAnyH_take (i := 11) (v := ?_) rfl (by kernel_rfl) (by kernel_rfl) (by kernel_rfl) (fun _ _ _ h => h) (Or.inl ⟨by rfl, ?_⟩) (by assumption) ?_; rotate_left; (· (intro w hSw; obtain ⟨⟨x0, x1⟩, ⟨k0, k1, k2⟩, ⟨z0, z1, z2, z3⟩, d0, d1, d2, d3⟩ := hSw; go_simp; try with_reducible rfl)); (try simp only [zl1, zl2, zl3, Act.put, zl4, zl5, zl6]))
        refine wpAnyH_ready (rs := [12]) (by kernel_rfl) (by simp) (AllReadyH.cons rfl (fun K hK => ?_) AllReadyH.nil)
        go_simp
        refine HCA.out.mono ?_
        rintro e w8 ⟨rfl, hb8⟩
        have HB8 := Lib.hid ((Below.refl W7.heap.size W7).drew.trans hb8)
        clear hS0
        have hS0 := HSB.out _ HB8.out
        refine hK.out _ _ hS0 (fun _ => ?_)
        clear hK K hb8
        (try simp only [zl1, zl2, zl3, Act.put, zl4, zl5, zl6])
        (refine wpAnyH_take (i := 13) (v := ?_) rfl (by kernel_rfl) (by kernel_rfl) (by kernel_rfl) (fun _ _ _ h => h) (Or.inl ⟨by rfl, ?_⟩) (by assumption) ?_; rotate_left; (· (intro w hSw; obtain ⟨⟨x0, x1⟩, ⟨k0, k1, k2⟩, ⟨z0, z1, z2, z3⟩, d0, d1, d2, d3⟩ := hSw; go_simp; try with_reducible rfl)); (try simp only [zl1, zl2, zl3, Act.put, zl4, zl5, zl6]))
        (refine wpAnyH_take (i := 14) (v := ?_) rfl (by kernel_rfl) (by kernel_rfl) (by kernel_rfl) (fun _ _ _ h => h) (Or.inl ⟨by rfl, ?_⟩) (by assumption) ?_; rotate_left; (· (intro w hSw; obtain ⟨⟨x0, x1⟩, ⟨k0, k1, k2⟩, ⟨z0, z1, z2, z3⟩, d0, d1, d2, d3⟩ := hSw; go_simp; try with_reducible rfl)); (try simp only [zl1, zl2, zl3, Act.put, zl4, zl5, zl6]))
        (refine wpAnyH_take (i := 15) (v := ?_) rfl (by kernel_rfl) (by kernel_rfl) (by kernel_rfl) (fun _ _ _ h => h) (Or.inl ⟨by rfl, ?_⟩) (by assumption) ?_; rotate_left; (· (intro w hSw; obtain ⟨⟨x0, x1⟩, ⟨k0, k1, k2⟩, ⟨z0, z1, z2, z3⟩, d0, d1, d2, d3⟩ := hSw; go_simp; try with_reducible rfl)); (try simp only [zl1, zl2, zl3, Act.put, zl4, zl5, zl6]))
        (refine wpAnyH_take (i := 16) (v := ?_) rfl (by kernel_rfl) (by kernel_rfl) (by kernel_rfl) (fun _ _ _ h => h) (Or.inl ⟨by rfl, ?_⟩) (by assumption) ?_; rotate_left; (· (intro w hSw; obtain ⟨⟨x0, x1⟩, ⟨k0, k1, k2⟩, ⟨z0, z1, z2, z3⟩, d0, d1, d2, d3⟩ := hSw; go_simp; try with_reducible rfl)); (try simp only [zl1, zl2, zl3, Act.put, zl4, zl5, zl6]))
        (refine wpAnyH_take (i := 17) (v := ?_) rfl (by kernel_rfl) (by kernel_rfl) (by kernel_rfl) (fun _ _ _ h => h) (Or.inl ⟨by rfl, ?_⟩) (by assumption) ?_; rotate_left; (· (intro w hSw; obtain ⟨⟨x0, x1⟩, ⟨k0, k1, k2⟩, ⟨z0, z1, z2, z3⟩, d0, d1, d2, d3⟩ := hSw; go_simp; try with_reducible rfl)); (try simp only [zl1, zl2, zl3, Act.put, zl4, zl5, zl6]))
        (refine wpAnyH_take (i := 18) (v := ?_) rfl (by kernel_rfl) (by kernel_rfl) (by kernel_rfl) (fun _ _ _ h => h) (Or.inl ⟨by rfl, ?_⟩) (by assumption) ?_; rotate_left; (· (intro w hSw; obtain ⟨⟨x0, x1⟩, ⟨k0, k1, k2⟩, ⟨z0, z1, z2, z3⟩, d0, d1, d2, d3⟩ := hSw; go_simp; try with_reducible rfl)); (try simp only [zl1, zl2, zl3, Act.put, zl4, zl5, zl6]))
        (refine wpAnyH_take (i := 19) (v := ?_) rfl (by kernel_rfl) (by kernel_rfl) (by kernel_rfl) (fun _ _ _ h => h) (Or.inl ⟨by rfl, ?_⟩) (by assumption) ?_; rotate_left; (· (intro w hSw; obtain ⟨⟨x0, x1⟩, ⟨k0, k1, k2⟩, ⟨z0, z1, z2, z3⟩, d0, d1, d2, d3⟩ := hSw; go_simp; try with_reducible rfl)); (try simp only [zl1, zl2, zl3, Act.put, zl4, zl5, zl6]))
        (refine wpAnyH_take (i := 20) (v := ?_) rfl (by kernel_rfl) (by kernel_rfl) (by kernel_rfl) (fun _ _ _ h => h) (Or.inl ⟨by rfl, ?_⟩) (by assumption) ?_; rotate_left; (· (intro w hSw; obtain ⟨⟨x0, x1⟩, ⟨k0, k1, k2⟩, ⟨z0, z1, z2, z3⟩, d0, d1, d2, d3⟩ := hSw; go_simp; try with_reducible rfl)); (try simp only [zl1, zl2, zl3, Act.put, zl4, zl5, zl6]))
        (refine wpAnyH_take (i := 21) (v := ?_) rfl (by kernel_rfl) (by kernel_rfl) (by kernel_rfl) (fun _ _ _ h => h) (Or.inl ⟨by rfl, ?_⟩) (by assumption) ?_; rotate_left; (· (intro w hSw; obtain ⟨⟨x0, x1⟩, ⟨k0, k1, k2⟩, ⟨z0, z1, z2, z3⟩, d0, d1, d2, d3⟩ := hSw; go_simp; try with_reducible rfl)); (try simp only [zl1, zl2, zl3, Act.put, zl4, zl5, zl6]))
        (refine wpAnyH_take (i := 22) (v := ?_) rfl (by kernel_rfl) (by kernel_rfl) (by kernel_rfl) (fun _ _ _ h => h) (Or.inl ⟨by rfl, ?_⟩) (by assumption) ?_; rotate_left; (· (intro w hSw; obtain ⟨⟨x0, x1⟩, ⟨k0, k1, k2⟩, ⟨z0, z1, z2, z3⟩, d0, d1, d2, d3⟩ := hSw; go_simp; try with_reducible rfl)); (try simp only [zl1, zl2, zl3, Act.put, zl4, zl5, zl6]))
        (refine wpAnyH_take (i := 23) (v := ?_) rfl (by kernel_rfl) (by kernel_rfl) (by kernel_rfl) (fun _ _ _ h => h) (Or.inl ⟨by rfl, ?_⟩) (by assumption) ?_; rotate_left; (· (intro w hSw; obtain ⟨⟨x0, x1⟩, ⟨k0, k1, k2⟩, ⟨z0, z1, z2, z3⟩, d0, d1, d2, d3⟩ := hSw; go_simp; try with_reducible rfl)); (try simp only [zl1, zl2, zl3, Act.put, zl4, zl5, zl6]))
        (refine wpAnyH_take (i := 24) (v := ?_) rfl (by kernel_rfl) (by kernel_rfl) (by kernel_rfl) (fun _ _ _ h => h) (Or.inl ⟨by rfl, ?_⟩) (by assumption) ?_; rotate_left; (· (intro w hSw; obtain ⟨⟨x0, x1⟩, ⟨k0, k1, k2⟩, ⟨z0, z1, z2, z3⟩, d0, d1, d2, d3⟩ := hSw; go_simp; try with_reducible rfl)); (try simp only [zl1, zl2, zl3, Act.put, zl4, zl5, zl6]))
        (refine wpAnyH_take (i := 25) (v := ?_) rfl (by kernel_rfl) (by kernel_rfl) (by kernel_rfl) (fun _ _ _ h => h) (Or.inl ⟨by rfl, ?_⟩) (by assumption) ?_; rotate_left; (· (intro w hSw; obtain ⟨⟨x0, x1⟩, ⟨k0, k1, k2⟩, ⟨z0, z1, z2, z3⟩, d0, d1, d2, d3⟩ := hSw; go_simp; try with_reducible rfl)); (try simp only [zl1, zl2, zl3, Act.put, zl4, zl5, zl6]))
        (refine wpAnyH_take (i := 26) (v := ?_) rfl (by kernel_rfl) (by kernel_rfl) (by kernel_rfl) (fun _ _ _ h => h) (Or.inl ⟨by rfl, ?_⟩) (by assumption) ?_; rotate_left; (· (intro w hSw; obtain ⟨⟨x0, x1⟩, ⟨k0, k1, k2⟩, ⟨z0, z1, z2, z3⟩, d0, d1, d2, d3⟩ := hSw; go_simp; try with_reducible rfl)); (try simp only [zl1, zl2, zl3, Act.put, zl4, zl5, zl6]))
        refine wpAnyH_done (by kernel_rfl) ?_ _
        refine NoPanic.normal ?_
        clear hS0
        have HB9 := Lib.hid (HB7.out.below HB8.out)
        have HSC : Hid (∀ W', Below w8.heap.size w8 W' → HeldV w.heap.size gk gy cb (co + n * 4) (.slice a X.length c) iv (.slice (some ⟨cb, co, none⟩) ch.length cc) y.1 (r : Int) y W') := Lib.hid (fun W' hb => HSB.out W' (HB8.out.trans (hb.mono HB8.out.size)))
        have hncc : (n : Int) ≤ (cc : Int) := by have := HCLN.out; omega
        clear HCA hq1
        go_upto_region 14 with fail
        refine wp_region_noPanic ?_
        refine wp_region_held_drew (S := HeldV w.heap.size gk gy cb (co + n * 4) (.slice a X.length c) iv (.slice (some ⟨cb, co, none⟩) ch.length cc) y.1 (r : Int) y) (by kernel_rfl) (HSC.out _ (Below.refl _ _).drew) (fun hS0 => ?_)
        (refine wpAnyH_take (i := 0) (v := ?_) rfl (by kernel_rfl) (by kernel_rfl) (by kernel_rfl) (fun _ _ _ h => h) (Or.inl ⟨by rfl, ?_⟩) (by assumption) ?_; rotate_left; (· (intro w hSw; obtain ⟨⟨x0, x1⟩, ⟨k0, k1, k2⟩, ⟨z0, z1, z2, z3⟩, d0, d1, d2, d3⟩ := hSw; go_simp; try with_reducible rfl)); (try simp only [zl1, zl2, zl3, Act.put, zl4, zl5, zl6]))
        (refine wpAnyH_take (i := 1) (v := ?_) rfl (by kernel_rfl) (by kernel_rfl) (by kernel_rfl) (fun _ _ _ h => h) (Or.inl ⟨by rfl, ?_⟩) (by assumption) ?_; rotate_left; (· (intro w hSw; obtain ⟨⟨x0, x1⟩, ⟨k0, k1, k2⟩, ⟨z0, z1, z2, z3⟩, d0, d1, d2, d3⟩ := hSw; go_simp; try with_reducible rfl)); (try simp only [zl1, zl2, zl3, Act.put, zl4, zl5, zl6]))
        (refine wpAnyH_take (i := 2) (v := ?_) rfl (by kernel_rfl) (by kernel_rfl) (by kernel_rfl) (fun _ _ _ h => h) (Or.inl ⟨by rfl, ?_⟩) (by assumption) ?_; rotate_left; (· (intro w hSw; obtain ⟨⟨x0, x1⟩, ⟨k0, k1, k2⟩, ⟨z0, z1, z2, z3⟩, d0, d1, d2, d3⟩ := hSw; go_simp; try with_reducible rfl)); (try simp only [zl1, zl2, zl3, Act.put, zl4, zl5, zl6]))
        (refine wpAnyH_take (i := 3) (v := ?_) rfl (by kernel_rfl) (by kernel_rfl) (by kernel_rfl) (fun _ _ _ h => h) (Or.inl ⟨by rfl, ?_⟩) (by assumption) ?_; rotate_left; (· (intro w hSw; obtain ⟨⟨x0, x1⟩, ⟨k0, k1, k2⟩, ⟨z0, z1, z2, z3⟩, d0, d1, d2, d3⟩ := hSw; go_simp; try with_reducible rfl)); (try simp only [zl1, zl2, zl3, Act.put, zl4, zl5, zl6]))
        (refine wpAnyH_take (i := 4) (v := ?_) rfl (by kernel_rfl) (by kernel_rfl) (by kernel_rfl) (fun _ _ _ h => h) (Or.inl ⟨by rfl, ?_⟩) (by assumption) ?_; rotate_left; (· (intro w hSw; obtain ⟨⟨x0, x1⟩, ⟨k0, k1, k2⟩, ⟨z0, z1, z2, z3⟩, d0, d1, d2, d3⟩ := hSw; go_simp; try with_reducible rfl)); (try simp only [zl1, zl2, zl3, Act.put, zl4, zl5, zl6]))
        (refine wpAnyH_take (i := 5) (v := ?_) rfl (by kernel_rfl) (by kernel_rfl) (by kernel_rfl) (fun _ _ _ h => h) (Or.inl ⟨by rfl, ?_⟩) (by assumption) ?_; rotate_left; (· (intro w hSw; obtain ⟨⟨x0, x1⟩, ⟨k0, k1, k2⟩, ⟨z0, z1, z2, z3⟩, d0, d1, d2, d3⟩ := hSw; go_simp; try with_reducible rfl)); (try simp only [zl1, zl2, zl3, Act.put, zl4, zl5, zl6]))
        (refine wpAnyH_take (i := 6) (v := ?_) rfl (by kernel_rfl) (by kernel_rfl) (by kernel_rfl) (fun _ _ _ h => h) (Or.inl ⟨by rfl, ?_⟩) (by assumption) ?_; rotate_left; (· (intro w hSw; obtain ⟨⟨x0, x1⟩, ⟨k0, k1, k2⟩, ⟨z0, z1, z2, z3⟩, d0, d1, d2, d3⟩ := hSw; go_simp; try with_reducible rfl)); (try simp only [zl1, zl2, zl3, Act.put, zl4, zl5, zl6]))
        (refine wpAnyH_take (i := 7) (v := ?_) rfl (by kernel_rfl) (by kernel_rfl) (by kernel_rfl) (fun _ _ _ h => h) (Or.inl ⟨by rfl, ?_⟩) (by assumption) ?_; rotate_left; (· (intro w hSw; obtain ⟨⟨x0, x1⟩, ⟨k0, k1, k2⟩, ⟨z0, z1, z2, z3⟩, d0, d1, d2, d3⟩ := hSw; go_simp; try with_reducible rfl)); (try simp only [zl1, zl2, zl3, Act.put, zl4, zl5, zl6]))
        (refine wpAnyH_take (i := 8) (v := ?_) rfl (by kernel_rfl) (by kernel_rfl) (by kernel_rfl) (fun _ _ _ h => h) (Or.inl ⟨by rfl, ?_⟩) (by assumption) ?_; rotate_left; (· (intro w hSw; obtain ⟨⟨x0, x1⟩, ⟨k0, k1, k2⟩, ⟨z0, z1, z2, z3⟩, d0, d1, d2, d3⟩ := hSw; go_simp; try with_reducible rfl)); (try simp only [zl1, zl2, zl3, Act.put, zl4, zl5, zl6]))
        (refine wpAnyH_take (i := 9) (v := ?_) rfl (by kernel_rfl) (by kernel_rfl) (by kernel_rfl) (fun _ _ _ h => h) (Or.inl ⟨by rfl, ?_⟩) (by assumption) ?_; rotate_left; (· (intro w hSw; obtain ⟨⟨x0, x1⟩, ⟨k0, k1, k2⟩, ⟨z0, z1, z2, z3⟩, d0, d1, d2, d3⟩ := hSw; go_simp; try with_reducible rfl)); (try simp only [zl1, zl2, zl3, Act.put, zl4, zl5, zl6]))
        (refine wpAnyH_take (i := 10) (v := ?_) rfl (by kernel_rfl) (by kernel_rfl) (by kernel_rfl) (fun _ _ _ h => h) (Or.inl ⟨by rfl, ?_⟩) (by assumption) ?_; rotate_left; (· (intro w hSw; obtain ⟨⟨x0, x1⟩, ⟨k0, k1, k2⟩, ⟨z0, z1, z2, z3⟩, d0, d1, d2, d3⟩ := hSw; go_simp; try with_reducible rfl)); (try simp only [zl1, zl2, zl3, Act.put, zl4, zl5, zl6]))
        (refine wpAnyH_take (i := 11) (v := ?_) rfl (by kernel_rfl) (by kernel_rfl) (by kernel_rfl) (fun _ _ _ h => h) (Or.inl ⟨by rfl, ?_⟩) (by assumption) ?_; rotate_left; (· (intro w hSw; obtain ⟨⟨x0, x1⟩, ⟨k0, k1, k2⟩, ⟨z0, z1, z2, z3⟩, d0, d1, d2, d3⟩ := hSw; go_simp; try with_reducible rfl)); (try simp only [zl1, zl2, zl3, Act.put, zl4, zl5, zl6]))
        refine wpAnyH_ready (rs := [12]) (by kernel_rfl) (by simp) (AllReadyH.cons rfl (fun K hK => ?_) AllReadyH.nil)
        go_simp
        have HZ9 := Lib.hid (World.alloc_heap_new w8 (.cells #[.string ⟨#[]⟩, .int .i64 0, .slice none 0 0] 29))
        have HBA := Lib.hid ((belQ w8 (.cells #[.string ⟨#[]⟩, .int .i64 0, .slice none 0 0] 29)).drew)
        clear hS0
        have hS0 := HSC.out _ HBA.out
        refine hK.out _ _ hS0 (fun _ => ?_)
        clear hK K
        (try simp only [zl1, zl2, zl3, Act.put, zl4, zl5, zl6])
        refine wpAnyH_ready (rs := [13]) (by kernel_rfl) (by simp) (AllReadyH.cons rfl (fun K hK => ?_) AllReadyH.nil)
        go_simp
        have HZS := Lib.hid (World.alloc_heap_new w8 (.cells #[.string y.1, .int .i64 (r : Int), .slice (some ⟨cb, co, none⟩) n cc] 29))
        have HBS := Lib.hid ((belQ w8 (.cells #[.string y.1, .int .i64 (r : Int), .slice (some ⟨cb, co, none⟩) n cc] 29)).drew)
        clear hS0
        refine hK.out _ _ (HSC.out _ HBS.out) (fun _ => ?_)
        clear hK K
        (try simp only [zl1, zl2, zl3, Act.put, zl4, zl5, zl6])
        refine wpAnyH_done (by kernel_rfl) ?_ _
        refine NoPanic.normal ?_
        have HZT : Hid (((w8.alloc (.cells #[.string y.1, .int .i64 (r : Int), .slice (some ⟨cb, co, none⟩) n cc] 29)).drew).heap[w8.heap.size]? = some (.cells #[.string y.1, .int .i64 (r : Int), .slice (some ⟨cb, co, none⟩) n cc] 29 (0, 0))) := HZS
        clear HZS HZ9 HBA
        generalize ((w8.alloc (.cells #[.string y.1, .int .i64 (r : Int), .slice (some ⟨cb, co, none⟩) n cc] 29)).drew) = w9 at *
        have HH9 := Lib.hid (HSC.out _ HBS.out)
        have HBb := Lib.hid (HB9.out.below HBS.out)
        have HC9 := Lib.hid (HC7.out.on HB8.out)
        have HC10 := Lib.hid (HC9.out.on HBS.out)
        have HW9 := Lib.hid (HW7.out.trans ((HB8.out.trans (HBS.out.mono HB8.out.size)).mono HW7.out.size))
        have hz79 : W7.heap.size ≤ w9.heap.size := Nat.le_trans HB8.out.size HBS.out.size
        generalize w8.heap.size = gs at *
        clear HSC HSB HB9 HB8 HBS HB7 HXY7 HC7 HW7 HH0 HC9
        obtain ⟨⟨x0, x1⟩, ⟨k0, k1, k2⟩, _⟩ := HH9.out
        go_upto_region 16 with fail
        have HQ := Lib.hid (World.alloc_heap_new w9 (.cells #[.string (path0 y.1), .int .i64 (r : Int), .slice (some ⟨cb, co, none⟩) ch.length cc] 29))
        have HBQ := Lib.hid (belQ w9 (.cells #[.string (path0 y.1), .int .i64 (r : Int), .slice (some ⟨cb, co, none⟩) ch.length cc] 29))
        change Code.wp _ _ _ _ (w9.alloc (.cells #[.string (path0 y.1), .int .i64 (r : Int), .slice (some ⟨cb, co, none⟩) ch.length cc] 29))
        generalize w9.alloc (.cells #[.string (path0 y.1), .int .i64 (r : Int), .slice (some ⟨cb, co, none⟩) ch.length cc] 29) = w10 at *
        have HBc := Lib.hid (HBb.out.below HBQ.out)
        have HC11 := Lib.hid (HC10.out.on HBQ.out)
        have HZ10 := Lib.hid ((HBQ.out.block gs (Array.getElem?_eq_some_iff.1 HZT.out).1).trans HZT.out)
        have HK10 := Lib.hid (HH9.out.below (Nat.lt_of_lt_of_le hgx hz79) (Nat.lt_of_lt_of_le hgk hz79) (Nat.lt_of_lt_of_le hgy hz79) (Nat.lt_of_lt_of_le hcb hz79) HBQ.out)
        have HWA := Lib.hid (HW9.out.trans (HBQ.out.mono HW9.out.size))
        clear x0 x1 k0 k1 k2
        have hn20b : n ≤ 1000000 := by have := hch20; have := HCLN.out; omega
        have hnl : n ≤ ch.length := by have := HCLN.out; omega
        have HQ1 := Lib.hid (HCK.out w10 y.1 (r : Int) (ch.take n) (.slice (some ⟨cb, co, none⟩) n cc) HBc.out.bel (Nat.le_trans (List.length_take_le _ _) hn20b) (HC11.out.first hnl))
        rw [HV2.out] at HQ1
        have c0 := HBc.out.c0
        have c1 := HBc.out.c1
        have s0 : w10.cell? ⟨gs, 0, none⟩ = some (.string y.1) := cell_of_row _ _ 0 _ _ _ HZ10.out
        have s1 : w10.cell? ⟨gs, 1, none⟩ = some (.int .i64 (r : Int)) := cell_of_row _ _ 1 _ _ _ HZ10.out
        have s2 : w10.cell? ⟨gs, 2, none⟩ = some (.slice (some ⟨cb, co, none⟩) n cc) := cell_of_row _ _ 2 _ _ _ HZ10.out
        go_wp2_with fail
        refine HQ1.out.mono ?_
        rintro e w11 ⟨rfl, hb11⟩
        have hz10 : w9.heap.size < w10.heap.size := (Array.getElem?_eq_some_iff.1 HQ.out).1
        have hgs10 : W7.heap.size ≤ w10.heap.size := Nat.le_trans hz79 (Nat.le_of_lt hz10)
        have HBd := Lib.hid (HBc.out.below hb11)
        have HC12 := Lib.hid (HC11.out.on hb11)
        have HK11 := Lib.hid (HK10.out.below (Nat.lt_of_lt_of_le hgx hgs10) (Nat.lt_of_lt_of_le hgk hgs10) (Nat.lt_of_lt_of_le hgy hgs10) (Nat.lt_of_lt_of_le hcb hgs10) hb11)
        have HQ11 := Lib.hid ((hb11.block w9.heap.size hz10).trans HQ.out)
        have HWB := Lib.hid (HWA.out.trans (hb11.mono HWA.out.size))
        have hs11 := hb11.size
        clear hb11 HQ1 c0 c1 s0 s1 s2 HBc HC11 HK10 HQ HWA HZ10 HBQ
        have HQ2 := Lib.hid (HCK.out w11 (path0 y.1) (r : Int) ch (.slice (some ⟨cb, co, none⟩) ch.length cc) HBd.out.bel hch20 HC12.out)
        rw [HV3.out] at HQ2
        have c0 := HBd.out.c0
        have c1 := HBd.out.c1
        have q0 : w11.cell? ⟨w9.heap.size, 0, none⟩ = some (.string (path0 y.1)) := cell_of_row _ _ 0 _ _ _ HQ11.out
        have q1 : w11.cell? ⟨w9.heap.size, 1, none⟩ = some (.int .i64 (r : Int)) := cell_of_row _ _ 1 _ _ _ HQ11.out
        have q2 : w11.cell? ⟨w9.heap.size, 2, none⟩ = some (.slice (some ⟨cb, co, none⟩) ch.length cc) := cell_of_row _ _ 2 _ _ _ HQ11.out
        go_wp2_with fail
        refine HQ2.out.mono ?_
        rintro e w12 ⟨rfl, hb12⟩
        have hgs11 : W7.heap.size ≤ w11.heap.size := Nat.le_trans hgs10 hs11
        have HBe := Lib.hid (HBd.out.below hb12)
        have HC13 := Lib.hid (HC12.out.on hb12)
        have HK12 := Lib.hid (HK11.out.below (Nat.lt_of_lt_of_le hgx hgs11) (Nat.lt_of_lt_of_le hgk hgs11) (Nat.lt_of_lt_of_le hgy hgs11) (Nat.lt_of_lt_of_le hcb hgs11) hb12)
        have HWC := Lib.hid (HWB.out.trans (hb12.mono HWB.out.size))
        clear hb12 HQ2 c0 c1 q0 q1 q2 HBd HC12 HK11 HQ11 HWB
        have HQ3 := Lib.hid (HCK.out w12 y.1 (roots.length : Int) ch (.slice (some ⟨cb, co, none⟩) ch.length cc) HBe.out.bel hch20 HC13.out)
        rw [HV4.out] at HQ3
        obtain ⟨⟨c0, c1⟩, ⟨k0, k1, k2⟩, _⟩ := HK12.out
        go_wp2_with fail
        refine HQ3.out.mono ?_
        rintro e w13 ⟨rfl, hb13⟩
        have HWD := Lib.hid (HWC.out.trans (hb13.mono HWC.out.size))
        clear hb13 HQ3 c0 c1 k0 k1 k2
        go_wp2_with fail
        go_roundw
        case rel => exact ⟨k + 1, hlk, by go_num, HWD⟩
        case measure => simp [intOf]; omega
end Go.Proofs.YtenfkejbndifdaaGreatDoor
