/- Contracts of the reference 34: Check. -/
import Derived.Test.YtenfkejbndifdaaGreatDoorZH
import Derived.Test.YtenfkejbndifdaaGreatDoorYU
namespace Go.Proofs.YtenfkejbndifdaaGreatDoor
set_option linter.unusedVariables false
set_option linter.unusedSimpArgs false
open Go Go.RowKit

theorem names_no {X : List RelL} {l : List ReqL} {z : SelL} {t : List SelL} (h : namesB X l z = false) : chainB X l (z :: t) = false := by
  rw [chain_step]
  have : (namesL false X l).find? (fun k => decide (keyL (X.getD k default) = z)) = none := by
    rw [List.find?_eq_none]
    intro k hk e
    obtain ⟨q, hq, hn⟩ := List.mem_filterMap.1 hk
    have h1 := List.any_eq_false.1 h q hq
    apply h1
    unfold namesQ
    rw [hn]
    exact e
  rw [this]
theorem names_yes {X : List RelL} (hX : IdxOk X) {l : List ReqL} {z : SelL} (h : namesB X l z = true) : ∃ k, k < X.length ∧ lookK X X.length z = some k ∧ ∀ t, chainB X l (z :: t) = chainB X (X.getD k default).reqs t := by
  obtain ⟨q, hq, h1⟩ := List.any_eq_true.1 h
  unfold namesQ at h1
  cases hn : namedI false X q with
  | none => rw [hn] at h1; cases h1
  | some k =>
    rw [hn] at h1
    have he : keyL (X.getD k default) = z := of_decide_eq_true h1
    have hk := (candI_mem.1 (named_mem hn)).1
    refine ⟨k, hk, look_hit hk (fun j hj e => ?_) he, fun t => ?_⟩
    · have := hX.inj (Nat.lt_trans hj hk) hk (e.trans he.symm)
      omega
    · rw [← he]
      exact chain_at hX ⟨q, hq, hn⟩
theorem take_mem {s : List SelL} {y : SelL} {i : Nat} {b : Bool} (hi : i < s.length) (h : b = true ↔ y ∈ s.take i) : (b || decide (s[i] = y)) = true ↔ y ∈ s.take (i + 1) := by
  rw [List.take_succ_eq_append_getElem hi, List.mem_append, List.mem_singleton, Bool.or_eq_true, h, decide_eq_true_iff]
  exact ⟨fun h => h.imp id Eq.symm, fun h => h.imp id Eq.symm⟩
def HeldK1 (g : Nat) (a0 a1 a2 : Value) (W : World) : Prop := W.cell? ⟨g, 0, none⟩ = some a0 ∧ W.cell? ⟨g, 1, none⟩ = some a1 ∧ W.cell? ⟨g, 2, none⟩ = some a2
def SelAt (W : World) (b o : Nat) (y : SelL) : Prop := W.cell? ⟨b, o, none⟩ = some (.string y.1) ∧ W.cell? ⟨b, o + 1, none⟩ = some (.int .i64 y.2.1) ∧ W.cell? ⟨b, o + 2, none⟩ = some (.int .i64 y.2.2.1) ∧ W.cell? ⟨b, o + 3, none⟩ = some (.int .i64 y.2.2.2)
theorem SelAt.below {W W' : World} {b o : Nat} {y : SelL} (h : SelAt W b o y) (hb : b < W.heap.size) (hw : Below W.heap.size W W') : SelAt W' b o y :=
  ⟨(hw.cell (p := ⟨b, o, none⟩) hb).trans h.1, (hw.cell (p := ⟨b, o + 1, none⟩) hb).trans h.2.1, (hw.cell (p := ⟨b, o + 2, none⟩) hb).trans h.2.2.1, (hw.cell (p := ⟨b, o + 3, none⟩) hb).trans h.2.2.2⟩
def HeldK2 (g : Nat) (a0 a1 a2 : Value) (b o : Nat) (y : SelL) (W : World) : Prop := HeldK1 g a0 a1 a2 W ∧ SelAt W b o y
def HeldK3 (g : Nat) (a0 a1 a2 : Value) (b o : Nat) (y : SelL) (b2 o2 : Nat) (x : SelL) (W : World) : Prop := HeldK1 g a0 a1 a2 W ∧ SelAt W b o y ∧ SelAt W b2 o2 x
theorem ChkB.k {w : World} {p : ByteArray} {r : Int} {cv v iv : Value} {W : World} (h : ChkB w p r cv v iv W) : HeldK1 (w.heap.size + 1) (.string p) (.int .i64 r) cv W := ⟨cell_of_row _ _ 0 _ _ _ h.cau, cell_of_row _ _ 1 _ _ _ h.cau, cell_of_row _ _ 2 _ _ _ h.cau⟩
def HeldK4 (g : Nat) (v iv a0 a1 a2 : Value) (b o : Nat) (y : SelL) (W : World) : Prop := (W.cell? ⟨g, 0, none⟩ = some v ∧ W.cell? ⟨g, 1, none⟩ = some iv) ∧ HeldK1 (g + 1) a0 a1 a2 W ∧ SelAt W b o y
def HeldK5 (g : Nat) (v iv a0 a1 a2 : Value) (b o : Nat) (y : SelL) (b2 o2 : Nat) (rx : Value) (W : World) : Prop := (W.cell? ⟨g, 0, none⟩ = some v ∧ W.cell? ⟨g, 1, none⟩ = some iv) ∧ HeldK1 (g + 1) a0 a1 a2 W ∧ SelAt W b o y ∧ W.cell? ⟨b2, o2, none⟩ = some rx
theorem req_box (W : World) (q : ReqL) (rs : Value) (h : SpansOf W.heap.size rs q.2 W) : ReqsOf (W.alloc (.cells #[.string q.1, rs] 58)).heap.size (.slice (some ⟨W.heap.size, 0, none⟩) 1 1) [q] (W.alloc (.cells #[.string q.1, rs] 58)) := by
  have hn := World.alloc_heap_new W (.cells #[.string q.1, rs] 58)
  refine ⟨_, _, rfl, fun i q2 hq => ?_⟩
  match i, hq with
  | 0, hq => cases hq; exact ⟨W.heap.size, 0, rs, rfl, by simp, cell_of_row _ _ 0 _ _ _ hn, cell_of_row _ _ 1 _ _ _ hn, h.on (belQ W _)⟩
  | i + 1, hq => simp at hq
set_option maxRecDepth 100000 in
set_option maxHeartbeats 16000000 in
theorem rCheck34_any (v iv rov cv : Value) (X : List RelL) (roots : List ReqL) (p : ByteArray) (r : Int) (ch : List SelL) (w : World) (hX : X.length ≤ 1000000) (hq : ∀ x ∈ X, RelBd x) (hR : RelsOf w.heap.size v X w)
    (hro : roots.length ≤ 1000000) (hrq : ReqsBd roots) (hRo : ReqsOf w.heap.size rov roots w) (hch : ch.length ≤ 1000000) (hC : SelsOf w.heap.size cv ch w) :
    Calls Tryz.prog 17 #[.agg #[v, iv], rov, .agg #[.string p, .int .i64 r, cv]] w fun e w' => e = .returned (.bool (checkV X roots (p, r, ch))) ∧ Below w.heap.size w w' := by
  have HSE := Lib.hid (fun W (hb : RowKit.Below w.heap.size w W) => rSelect34_any v iv rov X roots W hX hq (hR.on hb) hro hrq (hRo.on hb))
  have HNA := Lib.hid (fun (hv : ∀ x ∈ X, validB x.ver.1 x.ver.2.1 x.ver.2.2 = true) (lv : Value) (l : List ReqL) (y : SelL) W (hb : RowKit.Below w.heap.size w W) (hl : l.length ≤ 1000000) (hlq : ∀ q ∈ l, q.2.length ≤ 1000000) (hL : ReqsOf W.heap.size lv l W) => rnames_any v iv lv X l y W hX hv (hR.on hb) hl hlq hL)
  have HPO := Lib.hid (fun (y : SelL) W (hb : RowKit.Below w.heap.size w W) => rposition_any v iv X y W hX (hR.on hb))
  obtain ⟨ao, cap, rv, rfl, hrv⟩ := hR.rv
  have HRV := Lib.hid hrv
  have HC := Lib.hid hC
  have HRo := Lib.hid hRo
  have HQB := Lib.hid hq
  have HRB := Lib.hid hrq
  obtain ⟨ra, rc, rfl⟩ : ∃ ra rc, rov = .slice ra roots.length rc := by obtain ⟨a, c, e, _⟩ := hRo; exact ⟨a, c, e⟩
  obtain ⟨ca, cc, rfl⟩ : ∃ ca cc, cv = .slice ca ch.length cc := by obtain ⟨a, c, e, _⟩ := hC; exact ⟨a, c, e⟩
  clear hq hR hrq hRo hC hrv
  obtain ⟨R, hRes⟩ : ∃ R, checkV X roots (p, r, ch) = R := ⟨_, rfl⟩
  have HRES := Lib.hid hRes
  rw [hRes]
  clear hRes
  have HB0 := Lib.hid (ChkB.start w p r (.slice ca ch.length cc) (.slice ao X.length cap) iv)
  go_enter Tryz.func17, Tryz.ntmps17
  go_upto_region 1 with fail
  generalize (w.alloc (.cells #[.slice ao X.length cap, iv] 25)).alloc (.cells #[.string p, .int .i64 r, .slice ca ch.length cc] 29) = W at *
  have c0 : W.cell? ⟨w.heap.size, 0, none⟩ = some (.slice ao X.length cap) := cell_of_row _ _ 0 _ _ _ HB0.out.idx
  have c1 : W.cell? ⟨w.heap.size, 1, none⟩ = some iv := cell_of_row _ _ 1 _ _ _ HB0.out.idx
  go_wp2_with fail
  refine (HSE.out _ HB0.out.bel).mono ?_
  rintro e w1 ⟨hb1, sv, rfl, hs1⟩
  have HB1 := Lib.hid (HB0.out.below hb1)
  have HS1 := Lib.hid hs1
  have HSL : Hid ((selM false X roots).1.length ≤ 1000000) := Lib.hid (Nat.le_trans selM_len hX)
  obtain ⟨E, hE⟩ : ∃ E, (selM false X roots).2 = E := ⟨_, rfl⟩
  have HEE := Lib.hid hE
  rw [hE]
  clear hb1 hs1 HSE c0 c1 hE HB0
  obtain ⟨k0, k1, k2⟩ := HB1.out.k
  have HSB : Hid (∀ W', Below w1.heap.size w1 W' → HeldK1 (w.heap.size + 1) (.string p) (.int .i64 r) (.slice ca ch.length cc) W') := Lib.hid (fun W' hb => (HB1.out.below hb).k)
  by_cases hcn : ch = []
  case pos =>
    have HM : Hid (R = false) := Lib.hid (by rw [← HRES.out]; exact checkV_nil hcn)
    subst hcn
    simp only [List.length_nil] at k2 HSB ⊢
    go_upto_region 3 with fail
    by_cases hE0 : E = 0
    case neg =>
      have hE1 : (E != 0) = true := by simpa using hE0
      clear hE0
      refine wp_region_noPanic ?_
      refine wp_region_held_drew (S := HeldK1 (w.heap.size + 1) (.string p) (.int .i64 r) (.slice ca 0 cc)) (by kernel_rfl) (HSB.out _ (Below.refl _ _).drew) (fun hS0 => ?_)
      (refine zl2 (i := 0) (v := ?_) rfl (Or.inl ⟨by rfl, ?_⟩) (by assumption) ?_; rotate_left; (· (rintro w ⟨k0, k1, k2⟩; go_simp; try with_reducible rfl)); (try simp only [zl1, Act.put]))
      (refine zl2 (i := 1) (v := ?_) rfl (Or.inl ⟨by rfl, ?_⟩) (by assumption) ?_; rotate_left; (· (rintro w ⟨k0, k1, k2⟩; go_simp; try with_reducible rfl)); (try simp only [zl1, Act.put]))
      (refine zl2 (i := 2) (v := ?_) rfl (Or.inl ⟨by rfl, ?_⟩) (by assumption) ?_; rotate_left; (· (rintro w ⟨k0, k1, k2⟩; go_simp; try with_reducible rfl)); (try simp only [zl1, Act.put]))
      (refine zl2 (i := 3) (v := undef) rfl (Or.inr ⟨by rfl, rfl⟩) (by assumption) ?_; (try simp only [zl1, Act.put]))
      (refine zl2 (i := 4) (v := undef) rfl (Or.inr ⟨by rfl, rfl⟩) (by assumption) ?_; (try simp only [zl1, Act.put]))
      (refine zl2 (i := 5) (v := ?_) rfl (Or.inl ⟨by rfl, ?_⟩) (by assumption) ?_; rotate_left; (· (rintro w ⟨k0, k1, k2⟩; go_simp; try with_reducible rfl)); (try simp only [zl1, Act.put]))
      (refine zl2 (i := 6) (v := ?_) rfl (Or.inl ⟨by rfl, ?_⟩) (by assumption) ?_; rotate_left; (· (rintro w ⟨k0, k1, k2⟩; go_simp; try with_reducible rfl)); (try simp only [zl1, Act.put]))
      (refine zl2 (i := 7) (v := undef) rfl (Or.inr ⟨by rfl, rfl⟩) (by assumption) ?_; (try simp only [zl1, Act.put]))
      (refine zl2 (i := 8) (v := undef) rfl (Or.inr ⟨by rfl, rfl⟩) (by assumption) ?_; (try simp only [zl1, Act.put]))
      (refine zl2 (i := 9) (v := undef) rfl (Or.inr ⟨by rfl, rfl⟩) (by assumption) ?_; (try simp only [zl1, Act.put]))
      (refine zl2 (i := 10) (v := ?_) rfl (Or.inl ⟨by rfl, ?_⟩) (by assumption) ?_; rotate_left; (· (rintro w ⟨k0, k1, k2⟩; go_simp; try with_reducible rfl)); (try simp only [zl1, Act.put]))
      (refine zl2 (i := 11) (v := ?_) rfl (Or.inl ⟨by rfl, ?_⟩) (by assumption) ?_; rotate_left; (· (rintro w ⟨k0, k1, k2⟩; go_simp; try with_reducible rfl)); (try simp only [zl1, Act.put]))
      (refine zl2 (i := 12) (v := undef) rfl (Or.inr ⟨by rfl, rfl⟩) (by assumption) ?_; (try simp only [zl1, Act.put]))
      (refine zl2 (i := 13) (v := undef) rfl (Or.inr ⟨by rfl, rfl⟩) (by assumption) ?_; (try simp only [zl1, Act.put]))
      (refine zl2 (i := 14) (v := undef) rfl (Or.inr ⟨by rfl, rfl⟩) (by assumption) ?_; (try simp only [zl1, Act.put]))
      (refine zl2 (i := 15) (v := undef) rfl (Or.inr ⟨by rfl, rfl⟩) (by assumption) ?_; (try simp only [zl1, Act.put]))
      (refine zl2 (i := 16) (v := undef) rfl (Or.inr ⟨by rfl, rfl⟩) (by assumption) ?_; (try simp only [zl1, Act.put]))
      (refine zl2 (i := 17) (v := ?_) rfl (Or.inl ⟨by rfl, ?_⟩) (by assumption) ?_; rotate_left; (· (rintro w ⟨k0, k1, k2⟩; go_simp; try with_reducible rfl)); (try simp only [zl1, Act.put]))
      (refine zl2 (i := 18) (v := ?_) rfl (Or.inl ⟨by rfl, ?_⟩) (by assumption) ?_; rotate_left; (· (rintro w ⟨k0, k1, k2⟩; go_simp; try with_reducible rfl)); (try simp only [zl1, Act.put]))
      (refine zl2 (i := 19) (v := undef) rfl (Or.inr ⟨by rfl, rfl⟩) (by assumption) ?_; (try simp only [zl1, Act.put]))
      (refine zl2 (i := 20) (v := undef) rfl (Or.inr ⟨by rfl, rfl⟩) (by assumption) ?_; (try simp only [zl1, Act.put]))
      (refine zl2 (i := 21) (v := undef) rfl (Or.inr ⟨by rfl, rfl⟩) (by assumption) ?_; (try simp only [zl1, Act.put]))
      (refine zl2 (i := 22) (v := undef) rfl (Or.inr ⟨by rfl, rfl⟩) (by assumption) ?_; (try simp only [zl1, Act.put]))
      (refine zl2 (i := 23) (v := undef) rfl (Or.inr ⟨by rfl, rfl⟩) (by assumption) ?_; (try simp only [zl1, Act.put]))
      (refine zl2 (i := 24) (v := undef) rfl (Or.inr ⟨by rfl, rfl⟩) (by assumption) ?_; (try simp only [zl1, Act.put]))
      (refine zl2 (i := 25) (v := undef) rfl (Or.inr ⟨by rfl, rfl⟩) (by assumption) ?_; (try simp only [zl1, Act.put]))
      (refine zl2 (i := 26) (v := undef) rfl (Or.inr ⟨by rfl, rfl⟩) (by assumption) ?_; (try simp only [zl1, Act.put]))
      (refine zl2 (i := 27) (v := undef) rfl (Or.inr ⟨by rfl, rfl⟩) (by assumption) ?_; (try simp only [zl1, Act.put]))
      (refine zl2 (i := 28) (v := undef) rfl (Or.inr ⟨by rfl, rfl⟩) (by assumption) ?_; (try simp only [zl1, Act.put]))
      (refine zl2 (i := 29) (v := ?_) rfl (Or.inl ⟨by rfl, ?_⟩) (by assumption) ?_; rotate_left; (· (rintro w ⟨k0, k1, k2⟩; go_simp; try with_reducible rfl)); (try simp only [zl1, Act.put]))
      refine wpAnyH_done (by kernel_rfl) ?_ _
      refine NoPanic.normal ?_
      go_wp2_with fail
      go_ret
      exact ⟨by rw [HM.out]; rfl, HB1.out.bel.drew⟩
    case pos =>
      subst hE0
      refine wp_region_noPanic ?_
      refine wp_region_held_drew (S := HeldK1 (w.heap.size + 1) (.string p) (.int .i64 r) (.slice ca 0 cc)) (by kernel_rfl) (HSB.out _ (Below.refl _ _).drew) (fun hS0 => ?_)
      (refine zl2 (i := 0) (v := ?_) rfl (Or.inl ⟨by rfl, ?_⟩) (by assumption) ?_; rotate_left; (· (rintro w ⟨k0, k1, k2⟩; go_simp; try with_reducible rfl)); (try simp only [zl1, Act.put]))
      (refine zl2 (i := 1) (v := ?_) rfl (Or.inl ⟨by rfl, ?_⟩) (by assumption) ?_; rotate_left; (· (rintro w ⟨k0, k1, k2⟩; go_simp; try with_reducible rfl)); (try simp only [zl1, Act.put]))
      (refine zl2 (i := 2) (v := ?_) rfl (Or.inl ⟨by rfl, ?_⟩) (by assumption) ?_; rotate_left; (· (rintro w ⟨k0, k1, k2⟩; go_simp; try with_reducible rfl)); (try simp only [zl1, Act.put]))
      (refine zl2 (i := 3) (v := ?_) rfl (Or.inl ⟨by rfl, ?_⟩) (by assumption) ?_; rotate_left; (· (rintro w ⟨k0, k1, k2⟩; go_simp; try with_reducible rfl)); (try simp only [zl1, Act.put]))
      (refine zl2 (i := 4) (v := ?_) rfl (Or.inl ⟨by rfl, ?_⟩) (by assumption) ?_; rotate_left; (· (rintro w ⟨k0, k1, k2⟩; go_simp; try with_reducible rfl)); (try simp only [zl1, Act.put]))
      (refine zl2 (i := 5) (v := ?_) rfl (Or.inl ⟨by rfl, ?_⟩) (by assumption) ?_; rotate_left; (· (rintro w ⟨k0, k1, k2⟩; go_simp; try with_reducible rfl)); (try simp only [zl1, Act.put]))
      (refine zl2 (i := 6) (v := ?_) rfl (Or.inl ⟨by rfl, ?_⟩) (by assumption) ?_; rotate_left; (· (rintro w ⟨k0, k1, k2⟩; go_simp; try with_reducible rfl)); (try simp only [zl1, Act.put]))
      (refine zl2 (i := 7) (v := undef) rfl (Or.inr ⟨by rfl, rfl⟩) (by assumption) ?_; (try simp only [zl1, Act.put]))
      (refine zl2 (i := 8) (v := undef) rfl (Or.inr ⟨by rfl, rfl⟩) (by assumption) ?_; (try simp only [zl1, Act.put]))
      (refine zl2 (i := 9) (v := undef) rfl (Or.inr ⟨by rfl, rfl⟩) (by assumption) ?_; (try simp only [zl1, Act.put]))
      (refine zl2 (i := 10) (v := ?_) rfl (Or.inl ⟨by rfl, ?_⟩) (by assumption) ?_; rotate_left; (· (rintro w ⟨k0, k1, k2⟩; go_simp; try with_reducible rfl)); (try simp only [zl1, Act.put]))
      (refine zl2 (i := 11) (v := ?_) rfl (Or.inl ⟨by rfl, ?_⟩) (by assumption) ?_; rotate_left; (· (rintro w ⟨k0, k1, k2⟩; go_simp; try with_reducible rfl)); (try simp only [zl1, Act.put]))
      (refine zl2 (i := 12) (v := undef) rfl (Or.inr ⟨by rfl, rfl⟩) (by assumption) ?_; (try simp only [zl1, Act.put]))
      (refine zl2 (i := 13) (v := undef) rfl (Or.inr ⟨by rfl, rfl⟩) (by assumption) ?_; (try simp only [zl1, Act.put]))
      (refine zl2 (i := 14) (v := undef) rfl (Or.inr ⟨by rfl, rfl⟩) (by assumption) ?_; (try simp only [zl1, Act.put]))
      (refine zl2 (i := 15) (v := undef) rfl (Or.inr ⟨by rfl, rfl⟩) (by assumption) ?_; (try simp only [zl1, Act.put]))
      (refine zl2 (i := 16) (v := undef) rfl (Or.inr ⟨by rfl, rfl⟩) (by assumption) ?_; (try simp only [zl1, Act.put]))
      (refine zl2 (i := 17) (v := ?_) rfl (Or.inl ⟨by rfl, ?_⟩) (by assumption) ?_; rotate_left; (· (rintro w ⟨k0, k1, k2⟩; go_simp; try with_reducible rfl)); (try simp only [zl1, Act.put]))
      (refine zl2 (i := 18) (v := ?_) rfl (Or.inl ⟨by rfl, ?_⟩) (by assumption) ?_; rotate_left; (· (rintro w ⟨k0, k1, k2⟩; go_simp; try with_reducible rfl)); (try simp only [zl1, Act.put]))
      (refine zl2 (i := 19) (v := undef) rfl (Or.inr ⟨by rfl, rfl⟩) (by assumption) ?_; (try simp only [zl1, Act.put]))
      (refine zl2 (i := 20) (v := undef) rfl (Or.inr ⟨by rfl, rfl⟩) (by assumption) ?_; (try simp only [zl1, Act.put]))
      (refine zl2 (i := 21) (v := undef) rfl (Or.inr ⟨by rfl, rfl⟩) (by assumption) ?_; (try simp only [zl1, Act.put]))
      (refine zl2 (i := 22) (v := undef) rfl (Or.inr ⟨by rfl, rfl⟩) (by assumption) ?_; (try simp only [zl1, Act.put]))
      (refine zl2 (i := 23) (v := undef) rfl (Or.inr ⟨by rfl, rfl⟩) (by assumption) ?_; (try simp only [zl1, Act.put]))
      (refine zl2 (i := 24) (v := undef) rfl (Or.inr ⟨by rfl, rfl⟩) (by assumption) ?_; (try simp only [zl1, Act.put]))
      (refine zl2 (i := 25) (v := undef) rfl (Or.inr ⟨by rfl, rfl⟩) (by assumption) ?_; (try simp only [zl1, Act.put]))
      (refine zl2 (i := 26) (v := undef) rfl (Or.inr ⟨by rfl, rfl⟩) (by assumption) ?_; (try simp only [zl1, Act.put]))
      (refine zl2 (i := 27) (v := undef) rfl (Or.inr ⟨by rfl, rfl⟩) (by assumption) ?_; (try simp only [zl1, Act.put]))
      (refine zl2 (i := 28) (v := undef) rfl (Or.inr ⟨by rfl, rfl⟩) (by assumption) ?_; (try simp only [zl1, Act.put]))
      (refine zl2 (i := 29) (v := ?_) rfl (Or.inl ⟨by rfl, ?_⟩) (by assumption) ?_; rotate_left; (· (rintro w ⟨k0, k1, k2⟩; go_simp; try with_reducible rfl)); (try simp only [zl1, Act.put]))
      refine wpAnyH_done (by kernel_rfl) ?_ _
      refine NoPanic.normal ?_
      go_wp2_with fail
      go_ret
      exact ⟨by rw [HM.out]; rfl, HB1.out.bel.drew⟩
  have hlz : ((ch.length : Int) == 0) = false := by simp; exact hcn
  have hlz2 : ¬ ch.length = 0 := by simp; exact hcn
  go_upto_region 3 with fail
  by_cases hE0 : E = 0
  case neg =>
    have hE1 : (E != 0) = true := by simpa using hE0
    have HM : Hid (R = false) := Lib.hid (by rw [← HRES.out]; exact checkV_err (fun e => hE0 (HEE.out.symm.trans e)))
    clear hE0
    refine wp_region_noPanic ?_
    refine wp_region_held_drew (S := HeldK1 (w.heap.size + 1) (.string p) (.int .i64 r) (.slice ca ch.length cc)) (by kernel_rfl) (HSB.out _ (Below.refl _ _).drew) (fun hS0 => ?_)
    (refine zl2 (i := 0) (v := ?_) rfl (Or.inl ⟨by rfl, ?_⟩) (by assumption) ?_; rotate_left; (· (rintro w ⟨k0, k1, k2⟩; go_simp; try with_reducible rfl)); (try simp only [zl1, Act.put]))
    (refine zl2 (i := 1) (v := ?_) rfl (Or.inl ⟨by rfl, ?_⟩) (by assumption) ?_; rotate_left; (· (rintro w ⟨k0, k1, k2⟩; go_simp; try with_reducible rfl)); (try simp only [zl1, Act.put]))
    (refine zl2 (i := 2) (v := ?_) rfl (Or.inl ⟨by rfl, ?_⟩) (by assumption) ?_; rotate_left; (· (rintro w ⟨k0, k1, k2⟩; go_simp; try with_reducible rfl)); (try simp only [zl1, Act.put]))
    (refine zl2 (i := 3) (v := undef) rfl (Or.inr ⟨by rfl, rfl⟩) (by assumption) ?_; (try simp only [zl1, Act.put]))
    (refine zl2 (i := 4) (v := undef) rfl (Or.inr ⟨by rfl, rfl⟩) (by assumption) ?_; (try simp only [zl1, Act.put]))
    (refine zl2 (i := 5) (v := ?_) rfl (Or.inl ⟨by rfl, ?_⟩) (by assumption) ?_; rotate_left; (· (rintro w ⟨k0, k1, k2⟩; go_simp; try with_reducible rfl)); (try simp only [zl1, Act.put]))
    (refine zl2 (i := 6) (v := ?_) rfl (Or.inl ⟨by rfl, ?_⟩) (by assumption) ?_; rotate_left; (· (rintro w ⟨k0, k1, k2⟩; go_simp; try with_reducible rfl)); (try simp only [zl1, Act.put]))
    (refine zl2 (i := 7) (v := undef) rfl (Or.inr ⟨by rfl, rfl⟩) (by assumption) ?_; (try simp only [zl1, Act.put]))
    (refine zl2 (i := 8) (v := undef) rfl (Or.inr ⟨by rfl, rfl⟩) (by assumption) ?_; (try simp only [zl1, Act.put]))
    (refine zl2 (i := 9) (v := undef) rfl (Or.inr ⟨by rfl, rfl⟩) (by assumption) ?_; (try simp only [zl1, Act.put]))
    (refine zl2 (i := 10) (v := ?_) rfl (Or.inl ⟨by rfl, ?_⟩) (by assumption) ?_; rotate_left; (· (rintro w ⟨k0, k1, k2⟩; go_simp; try with_reducible rfl)); (try simp only [zl1, Act.put]))
    (refine zl2 (i := 11) (v := ?_) rfl (Or.inl ⟨by rfl, ?_⟩) (by assumption) ?_; rotate_left; (· (rintro w ⟨k0, k1, k2⟩; go_simp; try with_reducible rfl)); (try simp only [zl1, Act.put]))
    (refine zl2 (i := 12) (v := undef) rfl (Or.inr ⟨by rfl, rfl⟩) (by assumption) ?_; (try simp only [zl1, Act.put]))
    (refine zl2 (i := 13) (v := undef) rfl (Or.inr ⟨by rfl, rfl⟩) (by assumption) ?_; (try simp only [zl1, Act.put]))
    (refine zl2 (i := 14) (v := undef) rfl (Or.inr ⟨by rfl, rfl⟩) (by assumption) ?_; (try simp only [zl1, Act.put]))
    (refine zl2 (i := 15) (v := undef) rfl (Or.inr ⟨by rfl, rfl⟩) (by assumption) ?_; (try simp only [zl1, Act.put]))
    (refine zl2 (i := 16) (v := undef) rfl (Or.inr ⟨by rfl, rfl⟩) (by assumption) ?_; (try simp only [zl1, Act.put]))
    (refine zl2 (i := 17) (v := ?_) rfl (Or.inl ⟨by rfl, ?_⟩) (by assumption) ?_; rotate_left; (· (rintro w ⟨k0, k1, k2⟩; go_simp; try with_reducible rfl)); (try simp only [zl1, Act.put]))
    (refine zl2 (i := 18) (v := ?_) rfl (Or.inl ⟨by rfl, ?_⟩) (by assumption) ?_; rotate_left; (· (rintro w ⟨k0, k1, k2⟩; go_simp; try with_reducible rfl)); (try simp only [zl1, Act.put]))
    (refine zl2 (i := 19) (v := undef) rfl (Or.inr ⟨by rfl, rfl⟩) (by assumption) ?_; (try simp only [zl1, Act.put]))
    (refine zl2 (i := 20) (v := undef) rfl (Or.inr ⟨by rfl, rfl⟩) (by assumption) ?_; (try simp only [zl1, Act.put]))
    (refine zl2 (i := 21) (v := undef) rfl (Or.inr ⟨by rfl, rfl⟩) (by assumption) ?_; (try simp only [zl1, Act.put]))
    (refine zl2 (i := 22) (v := undef) rfl (Or.inr ⟨by rfl, rfl⟩) (by assumption) ?_; (try simp only [zl1, Act.put]))
    (refine zl2 (i := 23) (v := undef) rfl (Or.inr ⟨by rfl, rfl⟩) (by assumption) ?_; (try simp only [zl1, Act.put]))
    (refine zl2 (i := 24) (v := undef) rfl (Or.inr ⟨by rfl, rfl⟩) (by assumption) ?_; (try simp only [zl1, Act.put]))
    (refine zl2 (i := 25) (v := undef) rfl (Or.inr ⟨by rfl, rfl⟩) (by assumption) ?_; (try simp only [zl1, Act.put]))
    (refine zl2 (i := 26) (v := undef) rfl (Or.inr ⟨by rfl, rfl⟩) (by assumption) ?_; (try simp only [zl1, Act.put]))
    (refine zl2 (i := 27) (v := undef) rfl (Or.inr ⟨by rfl, rfl⟩) (by assumption) ?_; (try simp only [zl1, Act.put]))
    (refine zl2 (i := 28) (v := undef) rfl (Or.inr ⟨by rfl, rfl⟩) (by assumption) ?_; (try simp only [zl1, Act.put]))
    (refine zl2 (i := 29) (v := ?_) rfl (Or.inl ⟨by rfl, ?_⟩) (by assumption) ?_; rotate_left; (· (rintro w ⟨k0, k1, k2⟩; go_simp; try with_reducible rfl)); (try simp only [zl1, Act.put]))
    refine wpAnyH_done (by kernel_rfl) ?_ _
    refine NoPanic.normal ?_
    go_wp2_with fail
    go_ret
    exact ⟨by rw [HM.out]; rfl, HB1.out.bel.drew⟩
  subst hE0
  have hpa : PlainP X roots ∧ AllM false X roots := by
    have h := HEE.out
    by_cases hp : PlainP X roots
    · by_cases ha : AllM false X roots
      · exact ⟨hp, ha⟩
      · rw [selM_not hp ha] at h; cases h
    · rw [selM_arg hp] at h; cases h
  have HIX := Lib.hid (idx_ok hpa.1.idx)
  clear hpa
  by_cases hr0 : r < 0
  case pos =>
    have hr1 : decide (r < 0) = true := decide_eq_true hr0
    have HM : Hid (R = false) := Lib.hid (by rw [← HRES.out]; exact checkV_root (X := X) (roots := roots) (c := (p, r, ch)) (fun h => by have h1 := h.1; simp only at h1; omega))
    clear hr0
    refine wp_region_noPanic ?_
    refine wp_region_held_drew (S := HeldK1 (w.heap.size + 1) (.string p) (.int .i64 r) (.slice ca ch.length cc)) (by kernel_rfl) (HSB.out _ (Below.refl _ _).drew) (fun hS0 => ?_)
    (refine zl2 (i := 0) (v := ?_) rfl (Or.inl ⟨by rfl, ?_⟩) (by assumption) ?_; rotate_left; (· (rintro w ⟨k0, k1, k2⟩; go_simp; try with_reducible rfl)); (try simp only [zl1, Act.put]))
    (refine zl2 (i := 1) (v := ?_) rfl (Or.inl ⟨by rfl, ?_⟩) (by assumption) ?_; rotate_left; (· (rintro w ⟨k0, k1, k2⟩; go_simp; try with_reducible rfl)); (try simp only [zl1, Act.put]))
    (refine zl2 (i := 2) (v := ?_) rfl (Or.inl ⟨by rfl, ?_⟩) (by assumption) ?_; rotate_left; (· (rintro w ⟨k0, k1, k2⟩; go_simp; try with_reducible rfl)); (try simp only [zl1, Act.put]))
    (refine zl2 (i := 3) (v := ?_) rfl (Or.inl ⟨by rfl, ?_⟩) (by assumption) ?_; rotate_left; (· (rintro w ⟨k0, k1, k2⟩; go_simp; try with_reducible rfl)); (try simp only [zl1, Act.put]))
    (refine zl2 (i := 4) (v := ?_) rfl (Or.inl ⟨by rfl, ?_⟩) (by assumption) ?_; rotate_left; (· (rintro w ⟨k0, k1, k2⟩; go_simp; try with_reducible rfl)); (try simp only [zl1, Act.put]))
    (refine zl2 (i := 5) (v := ?_) rfl (Or.inl ⟨by rfl, ?_⟩) (by assumption) ?_; rotate_left; (· (rintro w ⟨k0, k1, k2⟩; go_simp; try with_reducible rfl)); (try simp only [zl1, Act.put]))
    (refine zl2 (i := 6) (v := ?_) rfl (Or.inl ⟨by rfl, ?_⟩) (by assumption) ?_; rotate_left; (· (rintro w ⟨k0, k1, k2⟩; go_simp; try with_reducible rfl)); (try simp only [zl1, Act.put]))
    (refine zl2 (i := 7) (v := ?_) rfl (Or.inl ⟨by rfl, ?_⟩) (by assumption) ?_; rotate_left; (· (rintro w ⟨k0, k1, k2⟩; go_simp; try with_reducible rfl)); (try simp only [zl1, Act.put]))
    (refine zl2 (i := 8) (v := ?_) rfl (Or.inl ⟨by rfl, ?_⟩) (by assumption) ?_; rotate_left; (· (rintro w ⟨k0, k1, k2⟩; go_simp; try with_reducible rfl)); (try simp only [zl1, Act.put]))
    (refine zl2 (i := 9) (v := ?_) rfl (Or.inl ⟨by rfl, ?_⟩) (by assumption) ?_; rotate_left; (· (rintro w ⟨k0, k1, k2⟩; go_simp; try with_reducible rfl)); (try simp only [zl1, Act.put]))
    (refine zl2 (i := 10) (v := ?_) rfl (Or.inl ⟨by rfl, ?_⟩) (by assumption) ?_; rotate_left; (· (rintro w ⟨k0, k1, k2⟩; go_simp; try with_reducible rfl)); (try simp only [zl1, Act.put]))
    (refine zl2 (i := 11) (v := ?_) rfl (Or.inl ⟨by rfl, ?_⟩) (by assumption) ?_; rotate_left; (· (rintro w ⟨k0, k1, k2⟩; go_simp; try with_reducible rfl)); (try simp only [zl1, Act.put]))
    (refine zl2 (i := 12) (v := undef) rfl (Or.inr ⟨by rfl, rfl⟩) (by assumption) ?_; (try simp only [zl1, Act.put]))
    (refine zl2 (i := 13) (v := undef) rfl (Or.inr ⟨by rfl, rfl⟩) (by assumption) ?_; (try simp only [zl1, Act.put]))
    (refine zl2 (i := 14) (v := undef) rfl (Or.inr ⟨by rfl, rfl⟩) (by assumption) ?_; (try simp only [zl1, Act.put]))
    (refine zl2 (i := 15) (v := undef) rfl (Or.inr ⟨by rfl, rfl⟩) (by assumption) ?_; (try simp only [zl1, Act.put]))
    (refine zl2 (i := 16) (v := undef) rfl (Or.inr ⟨by rfl, rfl⟩) (by assumption) ?_; (try simp only [zl1, Act.put]))
    (refine zl2 (i := 17) (v := ?_) rfl (Or.inl ⟨by rfl, ?_⟩) (by assumption) ?_; rotate_left; (· (rintro w ⟨k0, k1, k2⟩; go_simp; try with_reducible rfl)); (try simp only [zl1, Act.put]))
    (refine zl2 (i := 18) (v := ?_) rfl (Or.inl ⟨by rfl, ?_⟩) (by assumption) ?_; rotate_left; (· (rintro w ⟨k0, k1, k2⟩; go_simp; try with_reducible rfl)); (try simp only [zl1, Act.put]))
    (refine zl2 (i := 19) (v := undef) rfl (Or.inr ⟨by rfl, rfl⟩) (by assumption) ?_; (try simp only [zl1, Act.put]))
    (refine zl2 (i := 20) (v := undef) rfl (Or.inr ⟨by rfl, rfl⟩) (by assumption) ?_; (try simp only [zl1, Act.put]))
    (refine zl2 (i := 21) (v := undef) rfl (Or.inr ⟨by rfl, rfl⟩) (by assumption) ?_; (try simp only [zl1, Act.put]))
    (refine zl2 (i := 22) (v := undef) rfl (Or.inr ⟨by rfl, rfl⟩) (by assumption) ?_; (try simp only [zl1, Act.put]))
    (refine zl2 (i := 23) (v := undef) rfl (Or.inr ⟨by rfl, rfl⟩) (by assumption) ?_; (try simp only [zl1, Act.put]))
    (refine zl2 (i := 24) (v := undef) rfl (Or.inr ⟨by rfl, rfl⟩) (by assumption) ?_; (try simp only [zl1, Act.put]))
    (refine zl2 (i := 25) (v := undef) rfl (Or.inr ⟨by rfl, rfl⟩) (by assumption) ?_; (try simp only [zl1, Act.put]))
    (refine zl2 (i := 26) (v := undef) rfl (Or.inr ⟨by rfl, rfl⟩) (by assumption) ?_; (try simp only [zl1, Act.put]))
    (refine zl2 (i := 27) (v := undef) rfl (Or.inr ⟨by rfl, rfl⟩) (by assumption) ?_; (try simp only [zl1, Act.put]))
    (refine zl2 (i := 28) (v := undef) rfl (Or.inr ⟨by rfl, rfl⟩) (by assumption) ?_; (try simp only [zl1, Act.put]))
    (refine zl2 (i := 29) (v := ?_) rfl (Or.inl ⟨by rfl, ?_⟩) (by assumption) ?_; rotate_left; (· (rintro w ⟨k0, k1, k2⟩; go_simp; try with_reducible rfl)); (try simp only [zl1, Act.put]))
    refine wpAnyH_done (by kernel_rfl) ?_ _
    refine NoPanic.normal ?_
    go_wp2_with fail
    go_ret
    exact ⟨by rw [HM.out]; rfl, HB1.out.bel.drew⟩
  have hr1 : decide (r < 0) = false := decide_eq_false hr0
  by_cases hrl : (roots.length : Int) ≤ r
  case pos =>
    have hrl1 : decide ((roots.length : Int) ≤ r) = true := decide_eq_true hrl
    have HM : Hid (R = false) := Lib.hid (by rw [← HRES.out]; exact checkV_root (X := X) (roots := roots) (c := (p, r, ch)) (fun h => by have h1 := h.2; simp only at h1; omega))
    clear hr0 hrl
    refine wp_region_noPanic ?_
    refine wp_region_held_drew (S := HeldK1 (w.heap.size + 1) (.string p) (.int .i64 r) (.slice ca ch.length cc)) (by kernel_rfl) (HSB.out _ (Below.refl _ _).drew) (fun hS0 => ?_)
    (refine zl2 (i := 0) (v := ?_) rfl (Or.inl ⟨by rfl, ?_⟩) (by assumption) ?_; rotate_left; (· (rintro w ⟨k0, k1, k2⟩; go_simp; try with_reducible rfl)); (try simp only [zl1, Act.put]))
    (refine zl2 (i := 1) (v := ?_) rfl (Or.inl ⟨by rfl, ?_⟩) (by assumption) ?_; rotate_left; (· (rintro w ⟨k0, k1, k2⟩; go_simp; try with_reducible rfl)); (try simp only [zl1, Act.put]))
    (refine zl2 (i := 2) (v := ?_) rfl (Or.inl ⟨by rfl, ?_⟩) (by assumption) ?_; rotate_left; (· (rintro w ⟨k0, k1, k2⟩; go_simp; try with_reducible rfl)); (try simp only [zl1, Act.put]))
    (refine zl2 (i := 3) (v := ?_) rfl (Or.inl ⟨by rfl, ?_⟩) (by assumption) ?_; rotate_left; (· (rintro w ⟨k0, k1, k2⟩; go_simp; try with_reducible rfl)); (try simp only [zl1, Act.put]))
    (refine zl2 (i := 4) (v := ?_) rfl (Or.inl ⟨by rfl, ?_⟩) (by assumption) ?_; rotate_left; (· (rintro w ⟨k0, k1, k2⟩; go_simp; try with_reducible rfl)); (try simp only [zl1, Act.put]))
    (refine zl2 (i := 5) (v := ?_) rfl (Or.inl ⟨by rfl, ?_⟩) (by assumption) ?_; rotate_left; (· (rintro w ⟨k0, k1, k2⟩; go_simp; try with_reducible rfl)); (try simp only [zl1, Act.put]))
    (refine zl2 (i := 6) (v := ?_) rfl (Or.inl ⟨by rfl, ?_⟩) (by assumption) ?_; rotate_left; (· (rintro w ⟨k0, k1, k2⟩; go_simp; try with_reducible rfl)); (try simp only [zl1, Act.put]))
    (refine zl2 (i := 7) (v := ?_) rfl (Or.inl ⟨by rfl, ?_⟩) (by assumption) ?_; rotate_left; (· (rintro w ⟨k0, k1, k2⟩; go_simp; try with_reducible rfl)); (try simp only [zl1, Act.put]))
    (refine zl2 (i := 8) (v := ?_) rfl (Or.inl ⟨by rfl, ?_⟩) (by assumption) ?_; rotate_left; (· (rintro w ⟨k0, k1, k2⟩; go_simp; try with_reducible rfl)); (try simp only [zl1, Act.put]))
    (refine zl2 (i := 9) (v := ?_) rfl (Or.inl ⟨by rfl, ?_⟩) (by assumption) ?_; rotate_left; (· (rintro w ⟨k0, k1, k2⟩; go_simp; try with_reducible rfl)); (try simp only [zl1, Act.put]))
    (refine zl2 (i := 10) (v := ?_) rfl (Or.inl ⟨by rfl, ?_⟩) (by assumption) ?_; rotate_left; (· (rintro w ⟨k0, k1, k2⟩; go_simp; try with_reducible rfl)); (try simp only [zl1, Act.put]))
    (refine zl2 (i := 11) (v := ?_) rfl (Or.inl ⟨by rfl, ?_⟩) (by assumption) ?_; rotate_left; (· (rintro w ⟨k0, k1, k2⟩; go_simp; try with_reducible rfl)); (try simp only [zl1, Act.put]))
    (refine zl2 (i := 12) (v := ?_) rfl (Or.inl ⟨by rfl, ?_⟩) (by assumption) ?_; rotate_left; (· (rintro w ⟨k0, k1, k2⟩; go_simp; try with_reducible rfl)); (try simp only [zl1, Act.put]))
    (refine zl2 (i := 13) (v := ?_) rfl (Or.inl ⟨by rfl, ?_⟩) (by assumption) ?_; rotate_left; (· (rintro w ⟨k0, k1, k2⟩; go_simp; try with_reducible rfl)); (try simp only [zl1, Act.put]))
    (refine zl2 (i := 14) (v := ?_) rfl (Or.inl ⟨by rfl, ?_⟩) (by assumption) ?_; rotate_left; (· (rintro w ⟨k0, k1, k2⟩; go_simp; try with_reducible rfl)); (try simp only [zl1, Act.put]))
    (refine zl2 (i := 15) (v := ?_) rfl (Or.inl ⟨by rfl, ?_⟩) (by assumption) ?_; rotate_left; (· (rintro w ⟨k0, k1, k2⟩; go_simp; try with_reducible rfl)); (try simp only [zl1, Act.put]))
    (refine zl2 (i := 16) (v := ?_) rfl (Or.inl ⟨by rfl, ?_⟩) (by assumption) ?_; rotate_left; (· (rintro w ⟨k0, k1, k2⟩; go_simp; try with_reducible rfl)); (try simp only [zl1, Act.put]))
    (refine zl2 (i := 17) (v := ?_) rfl (Or.inl ⟨by rfl, ?_⟩) (by assumption) ?_; rotate_left; (· (rintro w ⟨k0, k1, k2⟩; go_simp; try with_reducible rfl)); (try simp only [zl1, Act.put]))
    (refine zl2 (i := 18) (v := ?_) rfl (Or.inl ⟨by rfl, ?_⟩) (by assumption) ?_; rotate_left; (· (rintro w ⟨k0, k1, k2⟩; go_simp; try with_reducible rfl)); (try simp only [zl1, Act.put]))
    (refine zl2 (i := 19) (v := undef) rfl (Or.inr ⟨by rfl, rfl⟩) (by assumption) ?_; (try simp only [zl1, Act.put]))
    (refine zl2 (i := 20) (v := undef) rfl (Or.inr ⟨by rfl, rfl⟩) (by assumption) ?_; (try simp only [zl1, Act.put]))
    (refine zl2 (i := 21) (v := undef) rfl (Or.inr ⟨by rfl, rfl⟩) (by assumption) ?_; (try simp only [zl1, Act.put]))
    (refine zl2 (i := 22) (v := undef) rfl (Or.inr ⟨by rfl, rfl⟩) (by assumption) ?_; (try simp only [zl1, Act.put]))
    (refine zl2 (i := 23) (v := undef) rfl (Or.inr ⟨by rfl, rfl⟩) (by assumption) ?_; (try simp only [zl1, Act.put]))
    (refine zl2 (i := 24) (v := undef) rfl (Or.inr ⟨by rfl, rfl⟩) (by assumption) ?_; (try simp only [zl1, Act.put]))
    (refine zl2 (i := 25) (v := undef) rfl (Or.inr ⟨by rfl, rfl⟩) (by assumption) ?_; (try simp only [zl1, Act.put]))
    (refine zl2 (i := 26) (v := undef) rfl (Or.inr ⟨by rfl, rfl⟩) (by assumption) ?_; (try simp only [zl1, Act.put]))
    (refine zl2 (i := 27) (v := undef) rfl (Or.inr ⟨by rfl, rfl⟩) (by assumption) ?_; (try simp only [zl1, Act.put]))
    (refine zl2 (i := 28) (v := undef) rfl (Or.inr ⟨by rfl, rfl⟩) (by assumption) ?_; (try simp only [zl1, Act.put]))
    (refine zl2 (i := 29) (v := ?_) rfl (Or.inl ⟨by rfl, ?_⟩) (by assumption) ?_; rotate_left; (· (rintro w ⟨k0, k1, k2⟩; go_simp; try with_reducible rfl)); (try simp only [zl1, Act.put]))
    refine wpAnyH_done (by kernel_rfl) ?_ _
    refine NoPanic.normal ?_
    go_wp2_with fail
    go_ret
    exact ⟨by rw [HM.out]; rfl, HB1.out.bel.drew⟩
  have hrl1 : decide ((roots.length : Int) ≤ r) = false := decide_eq_false hrl
  obtain ⟨k, hkr⟩ : ∃ k : Nat, r = (k : Int) := ⟨r.toNat, by omega⟩
  have hkl : k < roots.length := by omega
  obtain ⟨t, y, hty⟩ : ∃ t y, ch = t ++ [y] := ⟨_, _, (List.dropLast_concat_getLast hcn).symm⟩
  have hgl : ch.getLast? = some y := by rw [hty]; simp
  have HCV : Hid (R = _) := Lib.hid (HRES.out.symm.trans (checkV_last (c := (p, r, ch)) HEE.out hkr hkl hgl))
  have HKR := Lib.hid hkr
  have hcl : ch.length = t.length + 1 := by rw [hty]; simp
  have hct : ch[t.length]? = some y := by rw [hty]; simp
  obtain ⟨cb, co, rfl, hcbl, y0, y1, y2, y3⟩ := HC.out.get hct
  have hcb1 : cb < w1.heap.size := Nat.lt_of_lt_of_le hcbl HB1.out.bel.size
  have HY1 : Hid (SelAt w1 cb (co + t.length * 4) y) := Lib.hid (SelAt.below ⟨y0, y1, y2, y3⟩ hcbl HB1.out.bel)
  have hwr : wrap64 ((ch.length : Int) - 1) = (t.length : Int) := by rw [hcl]; unfold wrap64; omega
  have hwr2 : IntKind.i64.wrap ((ch.length : Int) - 1) = (t.length : Int) := by rw [hcl, IntWalk.i64_in _ (by omega)]; omega
  have hi1 : (0 : Int) ≤ (t.length : Int) := by omega
  have hi2 : (t.length : Int) < (ch.length : Int) := by omega
  generalize t.length = tn at *
  clear hcl hty hct hgl HEE HRES hkr y0 y1 y2 y3 hcn hr0 hrl t
  have HSY : Hid (∀ W', Below w1.heap.size w1 W' → HeldK2 (w.heap.size + 1) (.string p) (.int .i64 r) (.slice (some ⟨cb, co, none⟩) ch.length cc) cb (co + tn * 4) y W') := Lib.hid (fun W' hb => ⟨HSB.out W' hb, HY1.out.below hcb1 hb⟩)
  clear HSB
  by_cases hyp : y.1 = p
  case neg =>
    have hne : (y.1.toList == p.toList) = false := by rw [eqs_dec]; exact decide_eq_false hyp
    have hne2 : (y.1.toList != p.toList) = true := by show (!(y.1.toList == p.toList)) = true; rw [hne]; rfl
    have HM : Hid (R = false) := Lib.hid (by rw [HCV.out, decide_eq_false hyp]; rfl)
    clear hyp
    refine wp_region_noPanic ?_
    refine wp_region_held_drew (S := HeldK2 (w.heap.size + 1) (.string p) (.int .i64 r) (.slice (some ⟨cb, co, none⟩) ch.length cc) cb (co + tn * 4) y) (by kernel_rfl) (HSY.out _ (Below.refl _ _).drew) (fun hS0 => ?_)
    (refine zl2 (i := 0) (v := ?_) rfl (Or.inl ⟨by rfl, ?_⟩) (by assumption) ?_; rotate_left; (· (rintro w ⟨⟨k0, k1, k2⟩, y0, y1, y2, y3⟩; go_simp; try with_reducible rfl)); (try simp only [zl1, Act.put]))
    (refine zl2 (i := 1) (v := ?_) rfl (Or.inl ⟨by rfl, ?_⟩) (by assumption) ?_; rotate_left; (· (rintro w ⟨⟨k0, k1, k2⟩, y0, y1, y2, y3⟩; go_simp; try with_reducible rfl)); (try simp only [zl1, Act.put]))
    (refine zl2 (i := 2) (v := ?_) rfl (Or.inl ⟨by rfl, ?_⟩) (by assumption) ?_; rotate_left; (· (rintro w ⟨⟨k0, k1, k2⟩, y0, y1, y2, y3⟩; go_simp; try with_reducible rfl)); (try simp only [zl1, Act.put]))
    (refine zl2 (i := 3) (v := ?_) rfl (Or.inl ⟨by rfl, ?_⟩) (by assumption) ?_; rotate_left; (· (rintro w ⟨⟨k0, k1, k2⟩, y0, y1, y2, y3⟩; go_simp; try with_reducible rfl)); (try simp only [zl1, Act.put]))
    (refine zl2 (i := 4) (v := ?_) rfl (Or.inl ⟨by rfl, ?_⟩) (by assumption) ?_; rotate_left; (· (rintro w ⟨⟨k0, k1, k2⟩, y0, y1, y2, y3⟩; go_simp; try with_reducible rfl)); (try simp only [zl1, Act.put]))
    (refine zl2 (i := 5) (v := ?_) rfl (Or.inl ⟨by rfl, ?_⟩) (by assumption) ?_; rotate_left; (· (rintro w ⟨⟨k0, k1, k2⟩, y0, y1, y2, y3⟩; go_simp; try with_reducible rfl)); (try simp only [zl1, Act.put]))
    (refine zl2 (i := 6) (v := ?_) rfl (Or.inl ⟨by rfl, ?_⟩) (by assumption) ?_; rotate_left; (· (rintro w ⟨⟨k0, k1, k2⟩, y0, y1, y2, y3⟩; go_simp; try with_reducible rfl)); (try simp only [zl1, Act.put]))
    (refine zl2 (i := 7) (v := ?_) rfl (Or.inl ⟨by rfl, ?_⟩) (by assumption) ?_; rotate_left; (· (rintro w ⟨⟨k0, k1, k2⟩, y0, y1, y2, y3⟩; go_simp; try with_reducible rfl)); (try simp only [zl1, Act.put]))
    (refine zl2 (i := 8) (v := ?_) rfl (Or.inl ⟨by rfl, ?_⟩) (by assumption) ?_; rotate_left; (· (rintro w ⟨⟨k0, k1, k2⟩, y0, y1, y2, y3⟩; go_simp; try with_reducible rfl)); (try simp only [zl1, Act.put]))
    (refine zl2 (i := 9) (v := ?_) rfl (Or.inl ⟨by rfl, ?_⟩) (by assumption) ?_; rotate_left; (· (rintro w ⟨⟨k0, k1, k2⟩, y0, y1, y2, y3⟩; go_simp; try with_reducible rfl)); (try simp only [zl1, Act.put]))
    (refine zl2 (i := 10) (v := ?_) rfl (Or.inl ⟨by rfl, ?_⟩) (by assumption) ?_; rotate_left; (· (rintro w ⟨⟨k0, k1, k2⟩, y0, y1, y2, y3⟩; go_simp; try with_reducible rfl)); (try simp only [zl1, Act.put]))
    (refine zl2 (i := 11) (v := ?_) rfl (Or.inl ⟨by rfl, ?_⟩) (by assumption) ?_; rotate_left; (· (rintro w ⟨⟨k0, k1, k2⟩, y0, y1, y2, y3⟩; go_simp; try with_reducible rfl)); (try simp only [zl1, Act.put]))
    (refine zl2 (i := 12) (v := ?_) rfl (Or.inl ⟨by rfl, ?_⟩) (by assumption) ?_; rotate_left; (· (rintro w ⟨⟨k0, k1, k2⟩, y0, y1, y2, y3⟩; go_simp; try with_reducible rfl)); (try simp only [zl1, Act.put]))
    (refine zl2 (i := 13) (v := ?_) rfl (Or.inl ⟨by rfl, ?_⟩) (by assumption) ?_; rotate_left; (· (rintro w ⟨⟨k0, k1, k2⟩, y0, y1, y2, y3⟩; go_simp; try with_reducible rfl)); (try simp only [zl1, Act.put]))
    (refine zl2 (i := 14) (v := ?_) rfl (Or.inl ⟨by rfl, ?_⟩) (by assumption) ?_; rotate_left; (· (rintro w ⟨⟨k0, k1, k2⟩, y0, y1, y2, y3⟩; go_simp; try with_reducible rfl)); (try simp only [zl1, Act.put]))
    (refine zl2 (i := 15) (v := ?_) rfl (Or.inl ⟨by rfl, ?_⟩) (by assumption) ?_; rotate_left; (· (rintro w ⟨⟨k0, k1, k2⟩, y0, y1, y2, y3⟩; go_simp; try with_reducible rfl)); (try simp only [zl1, Act.put]))
    (refine zl2 (i := 16) (v := ?_) rfl (Or.inl ⟨by rfl, ?_⟩) (by assumption) ?_; rotate_left; (· (rintro w ⟨⟨k0, k1, k2⟩, y0, y1, y2, y3⟩; go_simp; try with_reducible rfl)); (try simp only [zl1, Act.put]))
    (refine zl2 (i := 17) (v := ?_) rfl (Or.inl ⟨by rfl, ?_⟩) (by assumption) ?_; rotate_left; (· (rintro w ⟨⟨k0, k1, k2⟩, y0, y1, y2, y3⟩; go_simp; try with_reducible rfl)); (try simp only [zl1, Act.put]))
    (refine zl2 (i := 18) (v := ?_) rfl (Or.inl ⟨by rfl, ?_⟩) (by assumption) ?_; rotate_left; (· (rintro w ⟨⟨k0, k1, k2⟩, y0, y1, y2, y3⟩; go_simp; try with_reducible rfl)); (try simp only [zl1, Act.put]))
    (refine zl2 (i := 19) (v := ?_) rfl (Or.inl ⟨by rfl, ?_⟩) (by assumption) ?_; rotate_left; (· (rintro w ⟨⟨k0, k1, k2⟩, y0, y1, y2, y3⟩; go_simp; try with_reducible rfl)); (try simp only [zl1, Act.put]))
    (refine zl2 (i := 20) (v := ?_) rfl (Or.inl ⟨by rfl, ?_⟩) (by assumption) ?_; rotate_left; (· (rintro w ⟨⟨k0, k1, k2⟩, y0, y1, y2, y3⟩; go_simp; try with_reducible rfl)); (try simp only [zl1, Act.put]))
    (refine zl2 (i := 21) (v := ?_) rfl (Or.inl ⟨by rfl, ?_⟩) (by assumption) ?_; rotate_left; (· (rintro w ⟨⟨k0, k1, k2⟩, y0, y1, y2, y3⟩; go_simp; try with_reducible rfl)); (try simp only [zl1, Act.put]))
    (refine zl2 (i := 22) (v := ?_) rfl (Or.inl ⟨by rfl, ?_⟩) (by assumption) ?_; rotate_left; (· (rintro w ⟨⟨k0, k1, k2⟩, y0, y1, y2, y3⟩; go_simp; try with_reducible rfl)); (try simp only [zl1, Act.put]))
    (refine zl2 (i := 23) (v := ?_) rfl (Or.inl ⟨by rfl, ?_⟩) (by assumption) ?_; rotate_left; (· (rintro w ⟨⟨k0, k1, k2⟩, y0, y1, y2, y3⟩; go_simp; try with_reducible rfl)); (try simp only [zl1, Act.put]))
    (refine zl2 (i := 24) (v := ?_) rfl (Or.inl ⟨by rfl, ?_⟩) (by assumption) ?_; rotate_left; (· (rintro w ⟨⟨k0, k1, k2⟩, y0, y1, y2, y3⟩; go_simp; try with_reducible rfl)); (try simp only [zl1, Act.put]))
    (refine zl2 (i := 25) (v := ?_) rfl (Or.inl ⟨by rfl, ?_⟩) (by assumption) ?_; rotate_left; (· (rintro w ⟨⟨k0, k1, k2⟩, y0, y1, y2, y3⟩; go_simp; try with_reducible rfl)); (try simp only [zl1, Act.put]))
    (refine zl2 (i := 26) (v := ?_) rfl (Or.inl ⟨by rfl, ?_⟩) (by assumption) ?_; rotate_left; (· (rintro w ⟨⟨k0, k1, k2⟩, y0, y1, y2, y3⟩; go_simp; try with_reducible rfl)); (try simp only [zl1, Act.put]))
    (refine zl2 (i := 27) (v := ?_) rfl (Or.inl ⟨by rfl, ?_⟩) (by assumption) ?_; rotate_left; (· (rintro w ⟨⟨k0, k1, k2⟩, y0, y1, y2, y3⟩; go_simp; try with_reducible rfl)); (try simp only [zl1, Act.put]))
    (refine zl2 (i := 28) (v := ?_) rfl (Or.inl ⟨by rfl, ?_⟩) (by assumption) ?_; rotate_left; (· (rintro w ⟨⟨k0, k1, k2⟩, y0, y1, y2, y3⟩; go_simp; try with_reducible rfl)); (try simp only [zl1, Act.put]))
    (refine zl2 (i := 29) (v := ?_) rfl (Or.inl ⟨by rfl, ?_⟩) (by assumption) ?_; rotate_left; (· (rintro w ⟨⟨k0, k1, k2⟩, y0, y1, y2, y3⟩; go_simp; try with_reducible rfl)); (try simp only [zl1, Act.put]))
    refine wpAnyH_done (by kernel_rfl) ?_ _
    refine NoPanic.normal ?_
    go_wp2_with fail
    go_ret
    exact ⟨by rw [HM.out]; rfl, HB1.out.bel.drew⟩
  have hne : (y.1.toList == p.toList) = true := by rw [eqs_dec]; exact decide_eq_true hyp
  have hne2 : (y.1.toList != p.toList) = false := by show (!(y.1.toList == p.toList)) = false; rw [hne]; rfl
  rw [decide_eq_true hyp, Bool.true_and] at HCV
  clear hyp
  refine wp_region_noPanic ?_
  refine wp_region_held_drew (S := HeldK2 (w.heap.size + 1) (.string p) (.int .i64 r) (.slice (some ⟨cb, co, none⟩) ch.length cc) cb (co + tn * 4) y) (by kernel_rfl) (HSY.out _ (Below.refl _ _).drew) (fun hS0 => ?_)
  (refine zl2 (i := 0) (v := ?_) rfl (Or.inl ⟨by rfl, ?_⟩) (by assumption) ?_; rotate_left; (· (rintro w ⟨⟨k0, k1, k2⟩, y0, y1, y2, y3⟩; go_simp; try with_reducible rfl)); (try simp only [zl1, Act.put]))
  (refine zl2 (i := 1) (v := ?_) rfl (Or.inl ⟨by rfl, ?_⟩) (by assumption) ?_; rotate_left; (· (rintro w ⟨⟨k0, k1, k2⟩, y0, y1, y2, y3⟩; go_simp; try with_reducible rfl)); (try simp only [zl1, Act.put]))
  (refine zl2 (i := 2) (v := ?_) rfl (Or.inl ⟨by rfl, ?_⟩) (by assumption) ?_; rotate_left; (· (rintro w ⟨⟨k0, k1, k2⟩, y0, y1, y2, y3⟩; go_simp; try with_reducible rfl)); (try simp only [zl1, Act.put]))
  (refine zl2 (i := 3) (v := ?_) rfl (Or.inl ⟨by rfl, ?_⟩) (by assumption) ?_; rotate_left; (· (rintro w ⟨⟨k0, k1, k2⟩, y0, y1, y2, y3⟩; go_simp; try with_reducible rfl)); (try simp only [zl1, Act.put]))
  (refine zl2 (i := 4) (v := ?_) rfl (Or.inl ⟨by rfl, ?_⟩) (by assumption) ?_; rotate_left; (· (rintro w ⟨⟨k0, k1, k2⟩, y0, y1, y2, y3⟩; go_simp; try with_reducible rfl)); (try simp only [zl1, Act.put]))
  (refine zl2 (i := 5) (v := ?_) rfl (Or.inl ⟨by rfl, ?_⟩) (by assumption) ?_; rotate_left; (· (rintro w ⟨⟨k0, k1, k2⟩, y0, y1, y2, y3⟩; go_simp; try with_reducible rfl)); (try simp only [zl1, Act.put]))
  (refine zl2 (i := 6) (v := ?_) rfl (Or.inl ⟨by rfl, ?_⟩) (by assumption) ?_; rotate_left; (· (rintro w ⟨⟨k0, k1, k2⟩, y0, y1, y2, y3⟩; go_simp; try with_reducible rfl)); (try simp only [zl1, Act.put]))
  (refine zl2 (i := 7) (v := ?_) rfl (Or.inl ⟨by rfl, ?_⟩) (by assumption) ?_; rotate_left; (· (rintro w ⟨⟨k0, k1, k2⟩, y0, y1, y2, y3⟩; go_simp; try with_reducible rfl)); (try simp only [zl1, Act.put]))
  (refine zl2 (i := 8) (v := ?_) rfl (Or.inl ⟨by rfl, ?_⟩) (by assumption) ?_; rotate_left; (· (rintro w ⟨⟨k0, k1, k2⟩, y0, y1, y2, y3⟩; go_simp; try with_reducible rfl)); (try simp only [zl1, Act.put]))
  (refine zl2 (i := 9) (v := ?_) rfl (Or.inl ⟨by rfl, ?_⟩) (by assumption) ?_; rotate_left; (· (rintro w ⟨⟨k0, k1, k2⟩, y0, y1, y2, y3⟩; go_simp; try with_reducible rfl)); (try simp only [zl1, Act.put]))
  (refine zl2 (i := 10) (v := ?_) rfl (Or.inl ⟨by rfl, ?_⟩) (by assumption) ?_; rotate_left; (· (rintro w ⟨⟨k0, k1, k2⟩, y0, y1, y2, y3⟩; go_simp; try with_reducible rfl)); (try simp only [zl1, Act.put]))
  (refine zl2 (i := 11) (v := ?_) rfl (Or.inl ⟨by rfl, ?_⟩) (by assumption) ?_; rotate_left; (· (rintro w ⟨⟨k0, k1, k2⟩, y0, y1, y2, y3⟩; go_simp; try with_reducible rfl)); (try simp only [zl1, Act.put]))
  (refine zl2 (i := 12) (v := ?_) rfl (Or.inl ⟨by rfl, ?_⟩) (by assumption) ?_; rotate_left; (· (rintro w ⟨⟨k0, k1, k2⟩, y0, y1, y2, y3⟩; go_simp; try with_reducible rfl)); (try simp only [zl1, Act.put]))
  (refine zl2 (i := 13) (v := ?_) rfl (Or.inl ⟨by rfl, ?_⟩) (by assumption) ?_; rotate_left; (· (rintro w ⟨⟨k0, k1, k2⟩, y0, y1, y2, y3⟩; go_simp; try with_reducible rfl)); (try simp only [zl1, Act.put]))
  (refine zl2 (i := 14) (v := ?_) rfl (Or.inl ⟨by rfl, ?_⟩) (by assumption) ?_; rotate_left; (· (rintro w ⟨⟨k0, k1, k2⟩, y0, y1, y2, y3⟩; go_simp; try with_reducible rfl)); (try simp only [zl1, Act.put]))
  (refine zl2 (i := 15) (v := ?_) rfl (Or.inl ⟨by rfl, ?_⟩) (by assumption) ?_; rotate_left; (· (rintro w ⟨⟨k0, k1, k2⟩, y0, y1, y2, y3⟩; go_simp; try with_reducible rfl)); (try simp only [zl1, Act.put]))
  (refine zl2 (i := 16) (v := ?_) rfl (Or.inl ⟨by rfl, ?_⟩) (by assumption) ?_; rotate_left; (· (rintro w ⟨⟨k0, k1, k2⟩, y0, y1, y2, y3⟩; go_simp; try with_reducible rfl)); (try simp only [zl1, Act.put]))
  (refine zl2 (i := 17) (v := ?_) rfl (Or.inl ⟨by rfl, ?_⟩) (by assumption) ?_; rotate_left; (· (rintro w ⟨⟨k0, k1, k2⟩, y0, y1, y2, y3⟩; go_simp; try with_reducible rfl)); (try simp only [zl1, Act.put]))
  (refine zl2 (i := 18) (v := ?_) rfl (Or.inl ⟨by rfl, ?_⟩) (by assumption) ?_; rotate_left; (· (rintro w ⟨⟨k0, k1, k2⟩, y0, y1, y2, y3⟩; go_simp; try with_reducible rfl)); (try simp only [zl1, Act.put]))
  (refine zl2 (i := 19) (v := ?_) rfl (Or.inl ⟨by rfl, ?_⟩) (by assumption) ?_; rotate_left; (· (rintro w ⟨⟨k0, k1, k2⟩, y0, y1, y2, y3⟩; go_simp; try with_reducible rfl)); (try simp only [zl1, Act.put]))
  (refine zl2 (i := 20) (v := ?_) rfl (Or.inl ⟨by rfl, ?_⟩) (by assumption) ?_; rotate_left; (· (rintro w ⟨⟨k0, k1, k2⟩, y0, y1, y2, y3⟩; go_simp; try with_reducible rfl)); (try simp only [zl1, Act.put]))
  (refine zl2 (i := 21) (v := ?_) rfl (Or.inl ⟨by rfl, ?_⟩) (by assumption) ?_; rotate_left; (· (rintro w ⟨⟨k0, k1, k2⟩, y0, y1, y2, y3⟩; go_simp; try with_reducible rfl)); (try simp only [zl1, Act.put]))
  (refine zl2 (i := 22) (v := ?_) rfl (Or.inl ⟨by rfl, ?_⟩) (by assumption) ?_; rotate_left; (· (rintro w ⟨⟨k0, k1, k2⟩, y0, y1, y2, y3⟩; go_simp; try with_reducible rfl)); (try simp only [zl1, Act.put]))
  (refine zl2 (i := 23) (v := ?_) rfl (Or.inl ⟨by rfl, ?_⟩) (by assumption) ?_; rotate_left; (· (rintro w ⟨⟨k0, k1, k2⟩, y0, y1, y2, y3⟩; go_simp; try with_reducible rfl)); (try simp only [zl1, Act.put]))
  (refine zl2 (i := 24) (v := ?_) rfl (Or.inl ⟨by rfl, ?_⟩) (by assumption) ?_; rotate_left; (· (rintro w ⟨⟨k0, k1, k2⟩, y0, y1, y2, y3⟩; go_simp; try with_reducible rfl)); (try simp only [zl1, Act.put]))
  (refine zl2 (i := 25) (v := ?_) rfl (Or.inl ⟨by rfl, ?_⟩) (by assumption) ?_; rotate_left; (· (rintro w ⟨⟨k0, k1, k2⟩, y0, y1, y2, y3⟩; go_simp; try with_reducible rfl)); (try simp only [zl1, Act.put]))
  (refine zl2 (i := 26) (v := ?_) rfl (Or.inl ⟨by rfl, ?_⟩) (by assumption) ?_; rotate_left; (· (rintro w ⟨⟨k0, k1, k2⟩, y0, y1, y2, y3⟩; go_simp; try with_reducible rfl)); (try simp only [zl1, Act.put]))
  (refine zl2 (i := 27) (v := ?_) rfl (Or.inl ⟨by rfl, ?_⟩) (by assumption) ?_; rotate_left; (· (rintro w ⟨⟨k0, k1, k2⟩, y0, y1, y2, y3⟩; go_simp; try with_reducible rfl)); (try simp only [zl1, Act.put]))
  (refine zl2 (i := 28) (v := ?_) rfl (Or.inl ⟨by rfl, ?_⟩) (by assumption) ?_; rotate_left; (· (rintro w ⟨⟨k0, k1, k2⟩, y0, y1, y2, y3⟩; go_simp; try with_reducible rfl)); (try simp only [zl1, Act.put]))
  (refine zl2 (i := 29) (v := ?_) rfl (Or.inl ⟨by rfl, ?_⟩) (by assumption) ?_; rotate_left; (· (rintro w ⟨⟨k0, k1, k2⟩, y0, y1, y2, y3⟩; go_simp; try with_reducible rfl)); (try simp only [zl1, Act.put]))
  refine wpAnyH_done (by kernel_rfl) ?_ _
  refine NoPanic.normal ?_
  have hd1 := (Below.refl w1.heap.size w1).drew
  have HB2 := Lib.hid (HB1.out.below hd1)
  have HS2 := Lib.hid (HS1.out.on hd1)
  have HY2 := Lib.hid (HY1.out.below hcb1 hd1)
  have hcb2 : cb < w1.drew.heap.size := Nat.lt_of_lt_of_le hcb1 hd1.size
  clear HB1 HS1 HY1 hcb1 hd1 hS0 HSY k0 k1 k2 hne hne2 hr1 hrl1 hlz hlz2
  generalize w1.drew = w2 at *
  obtain ⟨mb, hmb⟩ : ∃ mb, @decide (y ∈ (selM false X roots).1) (Classical.propDecidable _) = mb := ⟨_, rfl⟩
  have HMB : Hid (mb = true ↔ y ∈ (selM false X roots).1) := Lib.hid (by rw [← hmb]; exact @decide_eq_true_iff _ (Classical.propDecidable _))
  rw [hmb] at HCV
  clear hmb
  generalize (selM false X roots).1 = s at *
  obtain ⟨sa, sc, rfl⟩ : ∃ sa sc, sv = .slice sa s.length sc := by obtain ⟨a, c, e, _⟩ := HS2.out; exact ⟨a, c, e⟩
  have hkr := HKR.out
  subst hkr
  clear HKR
  go_wp2_with fail
  go_loopw [10, 11] (fun bv q wr => Hid (∃ (i : Nat) (b : Bool), i ≤ s.length ∧ q = .int .i64 (i : Int) ∧ bv = .bool b ∧ (b = true ↔ y ∈ s.take i) ∧ Below w2.heap.size w2 wr)) (fun _ q _ => s.length - (intOf q).toNat)
  case atStart => exact Lib.hid ⟨0, false, Nat.zero_le _, rfl, rfl, by simp, Below.refl _ _⟩
  case round =>
    obtain ⟨i, b, hi, rfl, rfl, hmi, hbl⟩ := hrel.out
    have HBL := Lib.hid hbl
    have HMI := Lib.hid hmi
    clear hrel hmi hbl
    by_cases hlt : i < s.length
    case neg =>
      have hii : i = s.length := Nat.le_antisymm hi (Nat.le_of_not_lt hlt)
      have HBM : Hid (mb = b) := Lib.hid (by
        have h := HMI.out
        rw [hii, List.take_length] at h
        exact Bool.eq_iff_iff.2 (HMB.out.trans h.symm))
      clear hi
      subst hii
      have HB3 := Lib.hid (HB2.out.below HBL.out)
      have HRV3 := Lib.hid HRV.out
      obtain ⟨k0, k1, k2⟩ := HB3.out.k
      obtain ⟨rb, ro, rs, rfl, hrb, hr0, hr1, hrs⟩ := HRo.out.get hkl
      have hr0 := (HB3.out.bel.cell (p := ⟨rb, ro + k * 2, none⟩) hrb).trans hr0
      have hr1 := (HB3.out.bel.cell (p := ⟨rb, ro + k * 2 + 1, none⟩) hrb).trans hr1
      have hk0 : (0 : Int) ≤ (k : Int) := Int.natCast_nonneg k
      have hk1 : (k : Int) < (roots.length : Int) := Int.ofNat_lt.2 hkl
      have hgd : roots.getD k default = roots[k] := by rw [List.getD_eq_getElem?_getD, List.getElem?_eq_getElem hkl]; rfl
      have HQ0 := Lib.hid (HRB.out _ (List.getElem_mem hkl))
      rw [hgd, HBM.out] at HCV
      clear hgd HBM HMB
      generalize roots[k] = q0 at *
      generalize wr = w3 at *
      go_wp2_with fail
      have HB4 := Lib.hid (HB3.out.below (belQ w3 (.cells #[.string q0.1, rs] 58)))
      have HL4 := Lib.hid (req_box w3 q0 rs (hrs.on HB3.out.bel))
      generalize w3.alloc (.cells #[.string q0.1, rs] 58) = w4 at *
      generalize w3.heap.size = g3 at *
      obtain ⟨C, hC⟩ : ∃ C, chainB X [q0] ch = C := ⟨_, rfl⟩
      have HCE := Lib.hid hC
      rw [hC] at HCV
      have HVX : Hid (∀ x ∈ X, validB x.ver.1 x.ver.2.1 x.ver.2.2 = true) := Lib.hid (fun x hx => by obtain ⟨i, hi, rfl⟩ := List.mem_iff_getElem.1 hx; simpa [List.getD_eq_getElem?_getD, List.getElem?_eq_getElem hi] using validX HIX.out i hi)
      have hqq := HQ0.out.2
      clear hC hr0 hr1 hrb hrs k0 k1 k2 HB2 HB3 HS2 HY2 HBL hcb2 hkl hk0 hk1 HRo hi1 hi2 hwr hwr2 HRV3 HQ0
      go_loopw [12, 13] (fun lv q wr => Hid (∃ (j : Nat) (l : List ReqL), j ≤ ch.length ∧ q = .int .i64 (j : Int) ∧ l.length ≤ 1000000 ∧ (∀ q ∈ l, q.2.length ≤ 1000000) ∧ ReqsOf wr.heap.size lv l wr ∧ C = chainB X l (ch.drop j) ∧ ChkB w p (k : Int) (.slice (some ⟨cb, co, none⟩) ch.length cc) (.slice ao X.length cap) iv wr)) (fun _ q _ => ch.length - (intOf q).toNat)
      case atStart => exact Lib.hid ⟨0, [q0], Nat.zero_le _, rfl, by simp, fun q hq => by rw [List.mem_singleton.1 hq]; exact hqq, HL4.out, by rw [List.drop_zero]; exact HCE.out.symm, HB4.out⟩
      case round =>
        obtain ⟨j, l, hj, rfl, hll, hlq, hL, hc, hb⟩ := hrel.out
        have HB := Lib.hid hb
        have HL := Lib.hid hL
        have HCJ := Lib.hid hc
        have HLL := Lib.hid hll
        have HLQ := Lib.hid hlq
        clear hrel hll hlq hL hc hb HB4 HL4 HCE hqq
        by_cases hlt : j < ch.length
        case neg =>
          have hjj : j = ch.length := Nat.le_antisymm hj (Nat.le_of_not_lt hlt)
          have HM : Hid (R = b) := Lib.hid (by rw [HCV.out, HCJ.out, hjj, List.drop_length]; exact Bool.and_true _)
          clear hj
          subst hjj
          go_wp2_with fail
          go_ret
          exact ⟨by rw [HM.out]; rfl, HB.out.bel⟩
        case pos =>
          have hz : SelAt w cb (co + j * 4) ch[j] := by obtain ⟨b', o', e, _, z0, z1, z2, z3⟩ := HC.out.get (List.getElem?_eq_getElem hlt); cases e; exact ⟨z0, z1, z2, z3⟩
          have HCZ : Hid (C = chainB X l (ch[j] :: ch.drop (j + 1))) := Lib.hid (by rw [HCJ.out]; congr 1; exact List.drop_eq_getElem_cons hlt)
          have hcbr : cb < wr.heap.size := Nat.lt_of_lt_of_le hcbl HB.out.bel.size
          have hzr := hz.below hcbl HB.out.bel
          have hj0 : (0 : Int) ≤ (j : Int) := Int.natCast_nonneg j
          have hj1 : (j : Int) < (ch.length : Int) := Int.ofNat_lt.2 hlt
          generalize ch[j] = z at *
          have HSB : Hid (∀ W', Below wr.heap.size wr W' → HeldK4 w.heap.size (.slice ao X.length cap) iv (.string p) (.int .i64 (k : Int)) (.slice (some ⟨cb, co, none⟩) ch.length cc) cb (co + j * 4) z W') := Lib.hid (fun W' hb => ⟨⟨cell_of_row _ _ 0 _ _ _ (HB.out.below hb).idx, cell_of_row _ _ 1 _ _ _ (HB.out.below hb).idx⟩, (HB.out.below hb).k, hzr.below hcbr hb⟩)
          have HNZ := Lib.hid (fun W' (hb : Below wr.heap.size wr W') => HNA.out HVX.out _ l z W' (HB.out.bel.trans (hb.mono HB.out.bel.size)) HLL.out HLQ.out (HL.out.on hb))
          obtain ⟨nb, hnb⟩ : ∃ nb, namesB X l z = nb := ⟨_, rfl⟩
          have HNB := Lib.hid hnb
          rw [hnb] at HNZ
          clear hz hzr hnb HL HLL HLQ HCJ
          go_upto_region 14 with fail
          refine wp_region_noPanic ?_
          refine wp_region_held_drew (S := HeldK4 w.heap.size (.slice ao X.length cap) iv (.string p) (.int .i64 (k : Int)) (.slice (some ⟨cb, co, none⟩) ch.length cc) cb (co + j * 4) z) (by kernel_rfl) (HSB.out _ (Below.refl _ _).drew) (fun hS0 => ?_)
          (refine zl2 (i := 0) (v := ?_) rfl (Or.inl ⟨by rfl, ?_⟩) (by assumption) ?_; rotate_left; (· (rintro w ⟨⟨c0, c1⟩, ⟨k0, k1, k2⟩, z0, z1, z2, z3⟩; go_simp; try with_reducible rfl)); (try simp only [zl1, Act.put]))
          (refine zl2 (i := 1) (v := ?_) rfl (Or.inl ⟨by rfl, ?_⟩) (by assumption) ?_; rotate_left; (· (rintro w ⟨⟨c0, c1⟩, ⟨k0, k1, k2⟩, z0, z1, z2, z3⟩; go_simp; try with_reducible rfl)); (try simp only [zl1, Act.put]))
          (refine zl2 (i := 2) (v := ?_) rfl (Or.inl ⟨by rfl, ?_⟩) (by assumption) ?_; rotate_left; (· (rintro w ⟨⟨c0, c1⟩, ⟨k0, k1, k2⟩, z0, z1, z2, z3⟩; go_simp; try with_reducible rfl)); (try simp only [zl1, Act.put]))
          (refine zl2 (i := 3) (v := ?_) rfl (Or.inl ⟨by rfl, ?_⟩) (by assumption) ?_; rotate_left; (· (rintro w ⟨⟨c0, c1⟩, ⟨k0, k1, k2⟩, z0, z1, z2, z3⟩; go_simp; try with_reducible rfl)); (try simp only [zl1, Act.put]))
          (refine zl2 (i := 4) (v := ?_) rfl (Or.inl ⟨by rfl, ?_⟩) (by assumption) ?_; rotate_left; (· (rintro w ⟨⟨c0, c1⟩, ⟨k0, k1, k2⟩, z0, z1, z2, z3⟩; go_simp; try with_reducible rfl)); (try simp only [zl1, Act.put]))
          (refine zl2 (i := 5) (v := ?_) rfl (Or.inl ⟨by rfl, ?_⟩) (by assumption) ?_; rotate_left; (· (rintro w ⟨⟨c0, c1⟩, ⟨k0, k1, k2⟩, z0, z1, z2, z3⟩; go_simp; try with_reducible rfl)); (try simp only [zl1, Act.put]))
          (refine zl2 (i := 6) (v := ?_) rfl (Or.inl ⟨by rfl, ?_⟩) (by assumption) ?_; rotate_left; (· (rintro w ⟨⟨c0, c1⟩, ⟨k0, k1, k2⟩, z0, z1, z2, z3⟩; go_simp; try with_reducible rfl)); (try simp only [zl1, Act.put]))
          refine wpAnyH_ready (rs := [7]) (by kernel_rfl) (by simp) (AllReadyH.cons rfl (fun K hK => ?_) AllReadyH.nil)
          go_simp
          refine (HNZ.out _ (Below.refl wr.heap.size wr).drew).mono ?_
          rintro e w5 ⟨rfl, hb5⟩
          have HB5 := Lib.hid ((Below.refl wr.heap.size wr).drew.trans hb5)
          clear hS0
          have hS0 := HSB.out _ HB5.out
          refine hK.out _ _ hS0 (fun _ => ?_)
          clear hK K hb5
          (try simp only [zl1, Act.put])
          (refine zl2 (i := 8) (v := ?_) rfl (Or.inl ⟨by rfl, ?_⟩) (by assumption) ?_; rotate_left; (· (rintro w ⟨⟨c0, c1⟩, ⟨k0, k1, k2⟩, z0, z1, z2, z3⟩; go_simp; try with_reducible rfl)); (try simp only [zl1, Act.put]))
          refine wpAnyH_done (by kernel_rfl) ?_ _
          refine NoPanic.normal ?_
          have HB6 := Lib.hid (HB.out.below HB5.out)
          have hcb6 : cb < w5.heap.size := Nat.lt_of_lt_of_le hcbr HB5.out.size
          obtain ⟨_, _, z0, z1, z2, z3⟩ := HSB.out _ HB5.out
          have HZ6 : Hid (SelAt w5 cb (co + j * 4) z) := Lib.hid ⟨z0, z1, z2, z3⟩
          clear HSB HNZ hS0 HB5 HB z0 z1 z2 z3
          cases nb with
          | false =>
            have HM : Hid (R = false) := Lib.hid (by rw [HCV.out, HCZ.out, names_no HNB.out, Bool.and_false])
            clear HNB HCZ
            go_wp2_with fail
            go_ret
            exact ⟨by rw [HM.out]; rfl, HB6.out.bel⟩
          | true =>
            obtain ⟨m, hm, hlk, hch2⟩ := names_yes HIX.out HNB.out
            have HCN := Lib.hid (HCZ.out.trans (hch2 _))
            have hg : X.getD m default = X[m] := by rw [List.getD_eq_getElem?_getD, List.getElem?_eq_getElem hm]; rfl
            rw [hg] at HCN
            have HPZ : Hid (∀ W, RowKit.Below w.heap.size w W → Calls Tryz.prog 60 #[.agg #[.slice ao X.length cap, iv], .agg #[.string z.1, intC z.2.1, intC z.2.2.1, intC z.2.2.2]] W fun e w' => e = .returned (.int .i64 (m : Int)) ∧ Below W.heap.size W w') := Lib.hid (fun W hb => by have h := HPO.out z W hb; rw [hlk] at h; exact h)
            have HXB := Lib.hid (HQB.out _ (List.getElem_mem hm))
            obtain ⟨xb, xo, e1, hxb, hxc, hxr⟩ := HRV.out m _ (List.getElem?_eq_getElem hm)
            subst e1
            have HXR := Lib.hid hxr
            have hm0 : (0 : Int) ≤ (m : Int) := Int.natCast_nonneg m
            have hm1 : (m : Int) < (X.length : Int) := Int.ofNat_lt.2 hm
            generalize X[m] = x at *
            generalize rv m = rx at *
            obtain ⟨_, _, _, _, d4, _⟩ := hxc
            have hd4 := (HB6.out.bel.cell (p := ⟨xb, xo + m * 9 + 4, none⟩) hxb).trans d4
            have hxb6 : xb < w5.heap.size := Nat.lt_of_lt_of_le hxb HB6.out.bel.size
            have HSB : Hid (∀ W', Below w5.heap.size w5 W' → HeldK5 w.heap.size (.slice (some ⟨xb, xo, none⟩) X.length cap) iv (.string p) (.int .i64 (k : Int)) (.slice (some ⟨cb, co, none⟩) ch.length cc) cb (co + j * 4) z xb (xo + m * 9 + 4) rx W') := Lib.hid (fun W' hb => ⟨⟨cell_of_row _ _ 0 _ _ _ (HB6.out.below hb).idx, cell_of_row _ _ 1 _ _ _ (HB6.out.below hb).idx⟩, (HB6.out.below hb).k, HZ6.out.below hcb6 hb, (hb.cell (p := ⟨xb, xo + m * 9 + 4, none⟩) hxb6).trans hd4⟩)
            have HPW := Lib.hid (fun W' (hb : Below w5.heap.size w5 W') => HPZ.out W' (HB6.out.bel.trans (hb.mono HB6.out.bel.size)))
            clear HPZ d4 hd4 hxr hch2 hlk hg HCZ HNB HZ6 hcb6 hxb6
            go_upto_region 16 with fail
            refine wp_region_noPanic ?_
            refine wp_region_held_drew (S := HeldK5 w.heap.size (.slice (some ⟨xb, xo, none⟩) X.length cap) iv (.string p) (.int .i64 (k : Int)) (.slice (some ⟨cb, co, none⟩) ch.length cc) cb (co + j * 4) z xb (xo + m * 9 + 4) rx) (by kernel_rfl) (HSB.out _ (Below.refl _ _).drew) (fun hS0 => ?_)
            (refine zl2 (i := 0) (v := ?_) rfl (Or.inl ⟨by rfl, ?_⟩) (by assumption) ?_; rotate_left; (· (rintro w ⟨⟨c0, c1⟩, ⟨k0, k1, k2⟩, ⟨z0, z1, z2, z3⟩, d4⟩; go_simp; try with_reducible rfl)); (try simp only [zl1, Act.put]))
            (refine zl2 (i := 1) (v := ?_) rfl (Or.inl ⟨by rfl, ?_⟩) (by assumption) ?_; rotate_left; (· (rintro w ⟨⟨c0, c1⟩, ⟨k0, k1, k2⟩, ⟨z0, z1, z2, z3⟩, d4⟩; go_simp; try with_reducible rfl)); (try simp only [zl1, Act.put]))
            (refine zl2 (i := 2) (v := ?_) rfl (Or.inl ⟨by rfl, ?_⟩) (by assumption) ?_; rotate_left; (· (rintro w ⟨⟨c0, c1⟩, ⟨k0, k1, k2⟩, ⟨z0, z1, z2, z3⟩, d4⟩; go_simp; try with_reducible rfl)); (try simp only [zl1, Act.put]))
            (refine zl2 (i := 3) (v := ?_) rfl (Or.inl ⟨by rfl, ?_⟩) (by assumption) ?_; rotate_left; (· (rintro w ⟨⟨c0, c1⟩, ⟨k0, k1, k2⟩, ⟨z0, z1, z2, z3⟩, d4⟩; go_simp; try with_reducible rfl)); (try simp only [zl1, Act.put]))
            (refine zl2 (i := 4) (v := ?_) rfl (Or.inl ⟨by rfl, ?_⟩) (by assumption) ?_; rotate_left; (· (rintro w ⟨⟨c0, c1⟩, ⟨k0, k1, k2⟩, ⟨z0, z1, z2, z3⟩, d4⟩; go_simp; try with_reducible rfl)); (try simp only [zl1, Act.put]))
            (refine zl2 (i := 5) (v := ?_) rfl (Or.inl ⟨by rfl, ?_⟩) (by assumption) ?_; rotate_left; (· (rintro w ⟨⟨c0, c1⟩, ⟨k0, k1, k2⟩, ⟨z0, z1, z2, z3⟩, d4⟩; go_simp; try with_reducible rfl)); (try simp only [zl1, Act.put]))
            (refine zl2 (i := 6) (v := ?_) rfl (Or.inl ⟨by rfl, ?_⟩) (by assumption) ?_; rotate_left; (· (rintro w ⟨⟨c0, c1⟩, ⟨k0, k1, k2⟩, ⟨z0, z1, z2, z3⟩, d4⟩; go_simp; try with_reducible rfl)); (try simp only [zl1, Act.put]))
            (refine zl2 (i := 7) (v := ?_) rfl (Or.inl ⟨by rfl, ?_⟩) (by assumption) ?_; rotate_left; (· (rintro w ⟨⟨c0, c1⟩, ⟨k0, k1, k2⟩, ⟨z0, z1, z2, z3⟩, d4⟩; go_simp; try with_reducible rfl)); (try simp only [zl1, Act.put]))
            refine wpAnyH_ready (rs := [8]) (by kernel_rfl) (by simp) (AllReadyH.cons rfl (fun K hK => ?_) AllReadyH.nil)
            go_simp
            refine (HPW.out _ (Below.refl w5.heap.size w5).drew).mono ?_
            rintro e w7 ⟨rfl, hb7⟩
            have HB7 := Lib.hid ((Below.refl w5.heap.size w5).drew.trans hb7)
            clear hS0
            have hS0 := HSB.out _ HB7.out
            refine hK.out _ _ hS0 (fun _ => ?_)
            clear hK K hb7
            (try simp only [zl1, Act.put])
            (refine zl2 (i := 9) (v := ?_) rfl (Or.inl ⟨by rfl, ?_⟩) (by assumption) ?_; rotate_left; (· (rintro w ⟨⟨c0, c1⟩, ⟨k0, k1, k2⟩, ⟨z0, z1, z2, z3⟩, d4⟩; go_simp; try with_reducible rfl)); (try simp only [zl1, Act.put]))
            (refine zl2 (i := 10) (v := ?_) rfl (Or.inl ⟨by rfl, ?_⟩) (by assumption) ?_; rotate_left; (· (rintro w ⟨⟨c0, c1⟩, ⟨k0, k1, k2⟩, ⟨z0, z1, z2, z3⟩, d4⟩; go_simp; try with_reducible rfl)); (try simp only [zl1, Act.put]))
            (refine zl2 (i := 11) (v := ?_) rfl (Or.inl ⟨by rfl, ?_⟩) (by assumption) ?_; rotate_left; (· (rintro w ⟨⟨c0, c1⟩, ⟨k0, k1, k2⟩, ⟨z0, z1, z2, z3⟩, d4⟩; go_simp; try with_reducible rfl)); (try simp only [zl1, Act.put]))
            (refine zl2 (i := 12) (v := ?_) rfl (Or.inl ⟨by rfl, ?_⟩) (by assumption) ?_; rotate_left; (· (rintro w ⟨⟨c0, c1⟩, ⟨k0, k1, k2⟩, ⟨z0, z1, z2, z3⟩, d4⟩; go_simp; try with_reducible rfl)); (try simp only [zl1, Act.put]))
            refine wpAnyH_done (by kernel_rfl) ?_ _
            refine NoPanic.normal ?_
            have HB8 := Lib.hid (HB6.out.below HB7.out)
            have HR8 := Lib.hid (HXR.out.on HB8.out.bel)
            clear HSB HPW hS0 HB6 HB7 HXR
            go_wp2_with fail
            all_goals
              refine ⟨Lib.hid ⟨j + 1, x.reqs, hlt, by go_num, HXB.out.len, fun q hq => (HXB.out.reqs q hq).2, HR8.out, HCN.out, HB8.out⟩, ?_⟩
              simp [intOf]; omega
    case pos =>
      have hsl := HSL.out
      have hmn := take_mem hlt HMI.out
      obtain ⟨sb, so, rfl, hsb, s0, s1, s2, s3⟩ := HS2.out.get (List.getElem?_eq_getElem hlt)
      obtain ⟨d, hd⟩ : ∃ d, decide (s[i] = y) = d := ⟨_, rfl⟩
      have hq1 : ∀ W, (binOp .eql 43 (.agg #[.string s[i].1, .int .i64 s[i].2.1, .int .i64 s[i].2.2.1, .int .i64 s[i].2.2.2]) (.agg #[.string y.1, .int .i64 y.2.1, .int .i64 y.2.2.1, .int .i64 y.2.2.2])).run Tryz.prog W = .ok (.bool d) W := fun W => by rw [← hd]; exact sel_eql.1 s[i] y W
      rw [hd] at hmn
      have HMN := Lib.hid hmn
      have hsx : SelAt w2 sb (so + i * 4) s[i] := ⟨s0, s1, s2, s3⟩
      have hj0 : (0 : Int) ≤ (i : Int) := Int.natCast_nonneg i
      have hj1 : (i : Int) < (s.length : Int) := Int.ofNat_lt.2 hlt
      generalize s[i] = x at *
      have hsz : SelAt wr sb (so + i * 4) x := hsx.below (Nat.lt_of_lt_of_le hsb (Nat.le_refl _)) HBL.out
      have hsbr : sb < wr.heap.size := Nat.lt_of_lt_of_le hsb HBL.out.size
      have hcbr : cb < wr.heap.size := Nat.lt_of_lt_of_le hcb2 HBL.out.size
      have HSB : Hid (∀ W', Below wr.heap.size wr W' → HeldK3 (w.heap.size + 1) (.string p) (.int .i64 (k : Int)) (.slice (some ⟨cb, co, none⟩) ch.length cc) cb (co + tn * 4) y sb (so + i * 4) x W') := Lib.hid (fun W' hb => ⟨((HB2.out.below HBL.out).below hb).k, (HY2.out.below hcb2 HBL.out).below hcbr hb, hsz.below hsbr hb⟩)
      clear hmn hd s0 s1 s2 s3 hsx hsz HMI
      go_upto_region 9 with fail
      cases b with
      | true =>
        refine wp_region_noPanic ?_
        refine wp_region_held_drew (S := HeldK3 (w.heap.size + 1) (.string p) (.int .i64 (k : Int)) (.slice (some ⟨cb, co, none⟩) ch.length cc) cb (co + tn * 4) y sb (so + i * 4) x) (by kernel_rfl) (HSB.out _ (Below.refl _ _).drew) (fun hS0 => ?_)
        (refine zl2 (i := 0) (v := ?_) rfl (Or.inl ⟨by rfl, ?_⟩) (by assumption) ?_; rotate_left; (· (rintro w ⟨⟨k0, k1, k2⟩, ⟨y0, y1, y2, y3⟩, s0, s1, s2, s3⟩; go_simp; try with_reducible rfl)); (try simp only [zl1, Act.put]))
        (refine zl2 (i := 1) (v := ?_) rfl (Or.inl ⟨by rfl, ?_⟩) (by assumption) ?_; rotate_left; (· (rintro w ⟨⟨k0, k1, k2⟩, ⟨y0, y1, y2, y3⟩, s0, s1, s2, s3⟩; go_simp; try with_reducible rfl)); (try simp only [zl1, Act.put]))
        (refine zl2 (i := 2) (v := undef) rfl (Or.inr ⟨by rfl, rfl⟩) (by assumption) ?_; (try simp only [zl1, Act.put]))
        (refine zl2 (i := 3) (v := undef) rfl (Or.inr ⟨by rfl, rfl⟩) (by assumption) ?_; (try simp only [zl1, Act.put]))
        (refine zl2 (i := 4) (v := undef) rfl (Or.inr ⟨by rfl, rfl⟩) (by assumption) ?_; (try simp only [zl1, Act.put]))
        (refine zl2 (i := 5) (v := undef) rfl (Or.inr ⟨by rfl, rfl⟩) (by assumption) ?_; (try simp only [zl1, Act.put]))
        (refine zl2 (i := 6) (v := undef) rfl (Or.inr ⟨by rfl, rfl⟩) (by assumption) ?_; (try simp only [zl1, Act.put]))
        (refine zl2 (i := 7) (v := undef) rfl (Or.inr ⟨by rfl, rfl⟩) (by assumption) ?_; (try simp only [zl1, Act.put]))
        (refine zl2 (i := 8) (v := undef) rfl (Or.inr ⟨by rfl, rfl⟩) (by assumption) ?_; (try simp only [zl1, Act.put]))
        (refine zl2 (i := 9) (v := undef) rfl (Or.inr ⟨by rfl, rfl⟩) (by assumption) ?_; (try simp only [zl1, Act.put]))
        (refine zl2 (i := 10) (v := undef) rfl (Or.inr ⟨by rfl, rfl⟩) (by assumption) ?_; (try simp only [zl1, Act.put]))
        (refine zl2 (i := 11) (v := undef) rfl (Or.inr ⟨by rfl, rfl⟩) (by assumption) ?_; (try simp only [zl1, Act.put]))
        (refine zl2 (i := 12) (v := undef) rfl (Or.inr ⟨by rfl, rfl⟩) (by assumption) ?_; (try simp only [zl1, Act.put]))
        (refine zl2 (i := 13) (v := ?_) rfl (Or.inl ⟨by rfl, ?_⟩) (by assumption) ?_; rotate_left; (· (rintro w ⟨⟨k0, k1, k2⟩, ⟨y0, y1, y2, y3⟩, s0, s1, s2, s3⟩; go_simp; try with_reducible rfl)); (try simp only [zl1, Act.put]))
        (refine zl2 (i := 14) (v := ?_) rfl (Or.inl ⟨by rfl, ?_⟩) (by assumption) ?_; rotate_left; (· (rintro w ⟨⟨k0, k1, k2⟩, ⟨y0, y1, y2, y3⟩, s0, s1, s2, s3⟩; go_simp; try with_reducible rfl)); (try simp only [zl1, Act.put]))
        refine wpAnyH_done (by kernel_rfl) ?_ _
        refine NoPanic.normal ?_
        have HBD := Lib.hid HBL.out.drew
        have HMN1 : Hid (true = true ↔ y ∈ s.take (i + 1)) := Lib.hid HMN.out
        clear hS0 HSB HBL HMN
        go_wp2_with fail
        all_goals
          refine ⟨Lib.hid ⟨i + 1, true, hlt, by go_num, rfl, HMN1.out, HBD.out⟩, ?_⟩
          simp [intOf]; omega
      | false =>
        refine wp_region_noPanic ?_
        refine wp_region_held_drew (S := HeldK3 (w.heap.size + 1) (.string p) (.int .i64 (k : Int)) (.slice (some ⟨cb, co, none⟩) ch.length cc) cb (co + tn * 4) y sb (so + i * 4) x) (by kernel_rfl) (HSB.out _ (Below.refl _ _).drew) (fun hS0 => ?_)
        (refine zl2 (i := 0) (v := ?_) rfl (Or.inl ⟨by rfl, ?_⟩) (by assumption) ?_; rotate_left; (· (rintro w ⟨⟨k0, k1, k2⟩, ⟨y0, y1, y2, y3⟩, s0, s1, s2, s3⟩; go_simp; try with_reducible rfl)); (try simp only [zl1, Act.put]))
        (refine zl2 (i := 1) (v := ?_) rfl (Or.inl ⟨by rfl, ?_⟩) (by assumption) ?_; rotate_left; (· (rintro w ⟨⟨k0, k1, k2⟩, ⟨y0, y1, y2, y3⟩, s0, s1, s2, s3⟩; go_simp; try with_reducible rfl)); (try simp only [zl1, Act.put]))
        (refine zl2 (i := 2) (v := ?_) rfl (Or.inl ⟨by rfl, ?_⟩) (by assumption) ?_; rotate_left; (· (rintro w ⟨⟨k0, k1, k2⟩, ⟨y0, y1, y2, y3⟩, s0, s1, s2, s3⟩; go_simp; try with_reducible rfl)); (try simp only [zl1, Act.put]))
        (refine zl2 (i := 3) (v := ?_) rfl (Or.inl ⟨by rfl, ?_⟩) (by assumption) ?_; rotate_left; (· (rintro w ⟨⟨k0, k1, k2⟩, ⟨y0, y1, y2, y3⟩, s0, s1, s2, s3⟩; go_simp; try with_reducible rfl)); (try simp only [zl1, Act.put]))
        (refine zl2 (i := 4) (v := ?_) rfl (Or.inl ⟨by rfl, ?_⟩) (by assumption) ?_; rotate_left; (· (rintro w ⟨⟨k0, k1, k2⟩, ⟨y0, y1, y2, y3⟩, s0, s1, s2, s3⟩; go_simp; try with_reducible rfl)); (try simp only [zl1, Act.put]))
        (refine zl2 (i := 5) (v := ?_) rfl (Or.inl ⟨by rfl, ?_⟩) (by assumption) ?_; rotate_left; (· (rintro w ⟨⟨k0, k1, k2⟩, ⟨y0, y1, y2, y3⟩, s0, s1, s2, s3⟩; go_simp; try with_reducible rfl)); (try simp only [zl1, Act.put]))
        (refine zl2 (i := 6) (v := ?_) rfl (Or.inl ⟨by rfl, ?_⟩) (by assumption) ?_; rotate_left; (· (rintro w ⟨⟨k0, k1, k2⟩, ⟨y0, y1, y2, y3⟩, s0, s1, s2, s3⟩; go_simp; try with_reducible rfl)); (try simp only [zl1, Act.put]))
        (refine zl2 (i := 7) (v := ?_) rfl (Or.inl ⟨by rfl, ?_⟩) (by assumption) ?_; rotate_left; (· (rintro w ⟨⟨k0, k1, k2⟩, ⟨y0, y1, y2, y3⟩, s0, s1, s2, s3⟩; go_simp; try with_reducible rfl)); (try simp only [zl1, Act.put]))
        (refine zl2 (i := 8) (v := ?_) rfl (Or.inl ⟨by rfl, ?_⟩) (by assumption) ?_; rotate_left; (· (rintro w ⟨⟨k0, k1, k2⟩, ⟨y0, y1, y2, y3⟩, s0, s1, s2, s3⟩; go_simp; try with_reducible rfl)); (try simp only [zl1, Act.put]))
        (refine zl2 (i := 9) (v := ?_) rfl (Or.inl ⟨by rfl, ?_⟩) (by assumption) ?_; rotate_left; (· (rintro w ⟨⟨k0, k1, k2⟩, ⟨y0, y1, y2, y3⟩, s0, s1, s2, s3⟩; go_simp; try with_reducible rfl)); (try simp only [zl1, Act.put]))
        (refine zl2 (i := 10) (v := ?_) rfl (Or.inl ⟨by rfl, ?_⟩) (by assumption) ?_; rotate_left; (· (rintro w ⟨⟨k0, k1, k2⟩, ⟨y0, y1, y2, y3⟩, s0, s1, s2, s3⟩; go_simp; try with_reducible rfl)); (try simp only [zl1, Act.put]))
        (refine zl2 (i := 11) (v := ?_) rfl (Or.inl ⟨by rfl, ?_⟩) (by assumption) ?_; rotate_left; (· (rintro w ⟨⟨k0, k1, k2⟩, ⟨y0, y1, y2, y3⟩, s0, s1, s2, s3⟩; go_simp; try with_reducible rfl)); (try simp only [zl1, Act.put]))
        (refine zl2 (i := 12) (v := ?_) rfl (Or.inl ⟨by rfl, ?_⟩) (by assumption) ?_; rotate_left; (· (rintro w ⟨⟨k0, k1, k2⟩, ⟨y0, y1, y2, y3⟩, s0, s1, s2, s3⟩; go_simp; try with_reducible rfl)); (try simp only [zl1, Act.put]))
        (refine zl2 (i := 13) (v := ?_) rfl (Or.inl ⟨by rfl, ?_⟩) (by assumption) ?_; rotate_left; (· (rintro w ⟨⟨k0, k1, k2⟩, ⟨y0, y1, y2, y3⟩, s0, s1, s2, s3⟩; go_simp; try with_reducible rfl)); (try simp only [zl1, Act.put]))
        (refine zl2 (i := 14) (v := ?_) rfl (Or.inl ⟨by rfl, ?_⟩) (by assumption) ?_; rotate_left; (· (rintro w ⟨⟨k0, k1, k2⟩, ⟨y0, y1, y2, y3⟩, s0, s1, s2, s3⟩; go_simp; try with_reducible rfl)); (try simp only [zl1, Act.put]))
        refine wpAnyH_done (by kernel_rfl) ?_ _
        refine NoPanic.normal ?_
        have HBD := Lib.hid HBL.out.drew
        have HMN1 : Hid (d = true ↔ y ∈ s.take (i + 1)) := Lib.hid (by have h := HMN.out; rwa [Bool.false_or] at h)
        clear hS0 HSB HBL HMN
        go_wp2_with fail
        all_goals
          refine ⟨Lib.hid ⟨i + 1, d, hlt, by go_num, rfl, HMN1.out, HBD.out⟩, ?_⟩
          simp [intOf]; omega
end Go.Proofs.YtenfkejbndifdaaGreatDoor
