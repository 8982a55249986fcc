/- The law MvsReduces returns true. -/
import Derived.Test.YtenfkejbndifdaaGreatDoorVO
import Derived.Test.YtenfkejbndifdaaGreatDoorVT
import Derived.Test.YtenfkejbndifdaaGreatDoorUX
namespace Go.Proofs.YtenfkejbndifdaaGreatDoor
set_option linter.unusedVariables false
set_option linter.unusedSimpArgs false
open Go Go.RowKit

def rowS (t : List SelL) : List ReqL := t.map fun y => (y.1, canon [(plc y.2, 1000000)])
theorem rowS_snoc (t : List SelL) (y : SelL) : rowS (t ++ [y]) = rowS t ++ [(y.1, canon [(plc y.2, 1000000)])] := by unfold rowS; simp
theorem rowS_own {t : List SelL} (h : ∀ y ∈ t, validB y.2.1 y.2.2.1 y.2.2.2 = true) : rowS t = ownL t := by
  unfold rowS ownL
  refine List.map_congr_left fun y hy => ?_
  have hv := (validB_iff _ _ _).1 (h y hy)
  have : 0 ≤ plc y.2 ∧ plc y.2 < 1000000 := by unfold plc; omega
  rw [canon_up this.1 this.2]
  rfl
theorem selM_found {nw : Bool} {X : List RelL} {roots : List ReqL} {y : SelL} (h : y ∈ (selM nw X roots).1) : (findR X y).isSome = true := by
  obtain ⟨hp, i, hi, rfl⟩ := selM_mem h
  rw [findR_at (idx_ok hp.idx) (topM_mem.1 hi).1.lt.1]
  rfl
theorem red_law {X : List RelL} {roots : List ReqL} (h0 : (selM false X roots).2 = 0) (hl : (selM false X roots).1.length ≤ 16) :
    (∀ all, mergeV [roots, ownL (selM false X roots).1] = (all, 0) → selM false X all = ((selM false X roots).1, 0)) ∧ ∃ l, reduceV X (selM false X roots).1 = (l, 0) ∧ l.Sublist (ownL (selM false X roots).1) ∧ selM false X l = ((selM false X roots).1, 0) ∧ ∀ j, j < l.length → givesB X (selM false X roots).1 (l.eraseIdx j) = false := by
  obtain ⟨hp, ha⟩ := selM_zero h0
  rw [selM_ok hp ha] at hl ⊢
  simp only at hl ⊢
  have hg := gives_own hp ha hl
  refine ⟨fun all hm => ?_, _, reduceV_sel hp ha hl, redStep_sub _ _ _, gives_iff.1 (redStep_yes _ _ _ hg), ?_⟩
  · obtain ⟨_, _, e⟩ := merge_up hm
    rw [merge_own hp ha] at e
    rw [e]
    exact gives_iff.1 hg
  · refine redStep_least _ (ownL (selL false X roots)) (fun R1 R2 h12 h2 h => gives_mono hp ha hl R1 R2 h12 h2 h) _ _ (List.Sublist.refl _) (fun j h1 h2 => ?_)
    unfold ownL at h2
    rw [List.length_map] at h2
    omega
def HeldXr (g : Nat) (v iv : Value) (W : World) : Prop := W.cell? ⟨g, 0, none⟩ = some v ∧ W.cell? ⟨g, 1, none⟩ = some iv
def HeldYp (g : Nat) (p : ByteArray) (W : World) : Prop := W.cell? ⟨g, 0, none⟩ = some (.string p)
theorem flat_two (a b : List ReqL) : [a, b].flatten = a ++ b := by simp
theorem none_rest2 {B : Nat} {a : Addr} {W : World} (c' : Nat) : ReqsOf B (.slice (some a) 0 c') [] W := ⟨_, _, rfl, fun i q hq => by simp at hq⟩
theorem erase_le {R : List ReqL} {j : Nat} (h : R.length ≤ 16) : (R.eraseIdx j).length ≤ 1000000 := Nat.le_trans (List.length_eraseIdx_le _ _) (Nat.le_trans h (by decide))
theorem big6 {n : Nat} (h : n ≤ 20) : n ≤ 1000000 := Nat.le_trans h (by decide)
theorem big9 {n : Nat} (h : n ≤ 20) : n ≤ 1000000000 := Nat.le_trans h (by decide)
theorem to20 {n : Nat} (h : n ≤ 16) : n ≤ 20 := Nat.le_trans h (by decide)
theorem reqs_len2 {R : List ReqL} {j : Nat} (hj : j < R.length) (h : R.length ≤ 16) : [R.take j, R.drop (j + 1)].flatten.length ≤ 1000000 := by
  rw [flat_two, List.length_append, List.length_take, List.length_drop]
  omega
set_option maxRecDepth 100000 in
set_option maxHeartbeats 16000000 in
theorem MvsReduces_any (a : Option Addr) (c : Nat) (iv : Value) (X : List RelL) (rov : Value) (roots : List ReqL) (w : World) (hm : MaxOk w) (h0 : RelsOf w.heap.size (.slice a X.length c) X w ∧ X.length ≤ maxLen ∧ ∀ x ∈ X, x.reqs.length ≤ maxLen)
    (h1 : ReqsOf w.heap.size rov roots w ∧ roots.length ≤ maxLen) : Calls Tryz.prog 9 #[.agg #[.slice a X.length c, iv], rov] w fun e w' => e = .returned (.bool true) ∧ Below w.heap.size w w' := by
  obtain ⟨hR, hX, hXr⟩ := h0
  obtain ⟨hRo, hro⟩ := h1
  have HM := Lib.hid hm
  have HR := Lib.hid hR
  have HRo := Lib.hid hRo
  obtain ⟨ra, rc, rfl⟩ : ∃ ra rc, rov = .slice ra roots.length rc := by obtain ⟨a, c, e, _⟩ := hRo; exact ⟨a, c, e⟩
  have HAW := Lib.hid (fun W (hb : RowKit.Below w.heap.size w W) => awake34_any W (hm.below hb hm.pos))
  have HFEW := Lib.hid (fun W (hb : RowKit.Below w.heap.size w W) => few34_any a c iv (.slice ra roots.length rc) X roots W hX hXr (hR.on hb) hro (hRo.on hb))
  clear hm hR hRo
  have HB0 := Lib.hid (LawB.start w (.slice a X.length c) iv)
  go_enter Tryz.func9, Tryz.ntmps9
  go_upto_region 1 with fail
  generalize w.alloc (.cells #[.slice a X.length c, iv] 25) = W at *
  go_wp2_with fail
  refine (HAW.out _ HB0.out.bel).mono ?_
  rintro e w1 ⟨rfl, hb1⟩
  have HB1 := Lib.hid (HB0.out.below hb1)
  clear hb1 HAW HB0
  have c0 := HB1.out.c0
  have c1 := HB1.out.c1
  go_wp2_with fail
  refine (HFEW.out _ HB1.out.bel).mono ?_
  rintro e w2 ⟨fb, rfl, hfb, hb2⟩
  have HB2 := Lib.hid (HB1.out.below hb2)
  have HFB := Lib.hid hfb
  clear hb2 hfb HFEW c0 c1 HB1
  cases fb with
  | false =>
    go_wp2_with fail
    go_ret
    exact ⟨rfl, HB2.out.bel⟩
  | true =>
  have HF1 := Lib.hid (HFB.out rfl)
  clear HFB
  have HRB := Lib.hid HF1.out.1.bd
  have HQB := Lib.hid HF1.out.2.bd
  have hX2 : X.length ≤ 20 := HF1.out.1.len
  have hro2 : roots.length ≤ 1000000 := by have := HF1.out.2.len; omega
  have HSE := Lib.hid (fun W v l (hb : RowKit.Below w.heap.size w W) (hl : List.length l ≤ 1000000) (hbd : ReqsBd l) (hL : ReqsOf W.heap.size v l W) => MSelect_any (.slice a X.length c) iv v X l W (HM.out.below hb HM.out.pos) (big6 hX2) HRB.out (HR.out.on hb) hl hbd hL)
  have HLAW := Lib.hid (fun h0 hl => red_law (X := X) (roots := roots) h0 hl)
  have HVS : Hid (∀ y ∈ (selM false X roots).1, validB y.2.1 y.2.2.1 y.2.2.2 = true) := Lib.hid (fun y hy => selM_valid hy)
  have HFS : Hid (∀ y ∈ (selM false X roots).1, (findR X y).isSome = true) := Lib.hid (fun y hy => selM_found hy)
  have HYS : Hid (∀ y ∈ (selM false X roots).1, SelBd y) := Lib.hid (fun y hy => selM_bd HRB.out hy)
  have HSX := Lib.hid (HSE.out w2 (.slice ra roots.length rc) roots HB2.out.bel hro2 HQB.out (HRo.out.on HB2.out.bel))
  unfold SelR at HSE HSX
  obtain ⟨s, hs⟩ : ∃ s, (selM false X roots).1 = s := ⟨_, rfl⟩
  obtain ⟨E, hE⟩ : ∃ E, (selM false X roots).2 = E := ⟨_, rfl⟩
  rw [hs, hE] at HSX HLAW
  rw [hs] at HVS HFS HYS
  clear hs hE
  have c0 := HB2.out.c0
  have c1 := HB2.out.c1
  go_wp2_with fail
  refine HSX.out.mono ?_
  rintro e w3 ⟨hb3, sv, rfl, hs3⟩
  have HB3 := Lib.hid (HB2.out.below hb3)
  have HS3 := Lib.hid hs3
  obtain ⟨sa, sc, rfl⟩ : ∃ sa sc, sv = .slice sa s.length sc := by obtain ⟨a, c, e, _⟩ := hs3; exact ⟨a, c, e⟩
  clear hb3 hs3 c0 c1 HSX HB2
  by_cases hE : E = 0
  case neg =>
    have hE2 : (E != 0) = true := by simpa using hE
    go_wp2_with fail
    go_ret
    exact ⟨rfl, HB3.out.bel⟩
  subst hE
  by_cases h16 : 16 < s.length
  case pos =>
    have hd : decide ((16 : Int) < (s.length : Int)) = true := decide_eq_true (by omega)
    have hd2 : decide (16 < s.length) = true := decide_eq_true h16
    go_wp2_with fail
    go_ret
    exact ⟨rfl, HB3.out.bel⟩
  have hd : decide ((16 : Int) < (s.length : Int)) = false := decide_eq_false (by omega)
  have hd2 : decide (16 < s.length) = false := decide_eq_false h16
  have hs16 : s.length ≤ 16 := Nat.le_of_not_lt h16
  clear h16
  obtain ⟨hall, l, hred, hsub, hsl, hleast⟩ := HLAW.out rfl hs16
  have HALL := Lib.hid hall
  have HRED := Lib.hid hred
  have HSUB := Lib.hid hsub
  have HSL := Lib.hid hsl
  have HLEAST := Lib.hid hleast
  have hl16 : l.length ≤ 16 := by
    have := hsub.length_le
    unfold ownL at this
    rw [List.length_map] at this
    omega
  have HOBD : Hid (ReqsBd (ownL s)) := Lib.hid (own_bd HRB.out HFS.out (List.Sublist.refl _))
  have HLBD : Hid (ReqsBd l) := Lib.hid (own_bd HRB.out HFS.out hsub)
  have HEBD : Hid (∀ j, ReqsBd (l.eraseIdx j)) := Lib.hid (fun j => own_bd HRB.out HFS.out ((List.eraseIdx_sublist _ _).trans hsub))
  have HROW := Lib.hid (rowS_own HVS.out)
  clear hall hred hsub hsl hleast HLAW
  go_wp2_with fail
  go_loopw [7, 42] (fun ov p wr => Hid (∃ (k : Nat) (xs : List Value), k ≤ s.length ∧ p = .int .i64 (k : Int) ∧ RowX w3.heap.size ov (rowS (s.take k)) xs wr ∧ Below w3.heap.size w3 wr)) (fun _ p _ => s.length - (intOf p).toNat)
  case atStart => exact Lib.hid ⟨0, [], Nat.zero_le _, rfl, RowX.nil _ _, Below.refl _ _⟩
  case round =>
    obtain ⟨k, xs, hk, rfl, hrow, hbb⟩ := hrel.out
    have HO := Lib.hid hrow
    have HB := Lib.hid hbb
    clear hrel hrow hbb
    have hrl : (rowS (s.take k)).length = k := by unfold rowS; rw [List.length_map, List.length_take, Nat.min_eq_left hk]
    obtain ⟨oa, oc, rfl⟩ := own_any HO.out.own
    rw [hrl] at HO ⊢
    have HRL := Lib.hid hrl
    clear hrl
    by_cases hlk : k < s.length
    case pos =>
      obtain ⟨ab, ao, rfl, hab, a0, a1, a2, a3⟩ := HS3.out.get (List.getElem?_eq_getElem hlk)
      have a0 := (HB.out.cell (p := ⟨ab, ao + k * 4, none⟩) hab).trans a0
      have a1 := (HB.out.cell (p := ⟨ab, ao + k * 4 + 1, none⟩) hab).trans a1
      have a2 := (HB.out.cell (p := ⟨ab, ao + k * 4 + 2, none⟩) hab).trans a2
      have a3 := (HB.out.cell (p := ⟨ab, ao + k * 4 + 3, none⟩) hab).trans a3
      have hk1 : (0 : Int) ≤ (k : Int) := Int.natCast_nonneg k
      have hk2 : (k : Int) < (s.length : Int) := Int.ofNat_lt.2 hlk
      have HVK := Lib.hid (HVS.out _ (List.getElem_mem hlk))
      have HRW : Hid (rowS (s.take (k + 1)) = rowS (s.take k) ++ [(s[k].1, canon [(plc s[k].2, 1000000)])]) := Lib.hid (by rw [List.take_succ_eq_append_getElem hlk]; exact rowS_snoc _ _)
      generalize s[k] = y at *
      have HXY := Lib.hid (show SelBox (wr.alloc (.cells #[.string y.1, .int .i64 y.2.1, .int .i64 y.2.2.1, .int .i64 y.2.2.2] 43)) wr.heap.size y from World.alloc_heap_new wr _)
      have HBA := Lib.hid (belQ wr (.cells #[.string y.1, .int .i64 y.2.1, .int .i64 y.2.2.1, .int .i64 y.2.2.2] 43))
      go_upto_region 12 with fail
      generalize wr.alloc (.cells #[.string y.1, .int .i64 y.2.1, .int .i64 y.2.2.1, .int .i64 y.2.2.2] 43) = W5 at *
      have HB5 := Lib.hid (HB.out.trans (HBA.out.mono HB.out.size))
      have HO5 := Lib.hid (HO.out.below HBA.out)
      generalize wr.heap.size = gy at *
      clear a0 a1 a2 a3 HBA HB HO
      have x1 : W5.cell? ⟨gy, 1, none⟩ = some (.int .i64 y.2.1) := cell_of_row _ _ 1 _ _ _ HXY.out
      have x2 : W5.cell? ⟨gy, 2, none⟩ = some (.int .i64 y.2.2.1) := cell_of_row _ _ 2 _ _ _ HXY.out
      have x3 : W5.cell? ⟨gy, 3, none⟩ = some (.int .i64 y.2.2.2) := cell_of_row _ _ 3 _ _ _ HXY.out
      have HP := Lib.hid (Place_any y.2.1 y.2.2.1 y.2.2.2 W5)
      rw [show placeV y.2.1 y.2.2.1 y.2.2.2 = (plc y.2, 0) by unfold placeV plc; rw [if_pos HVK.out]] at HP
      go_wp2_with fail
      refine HP.out.mono ?_
      rintro e w6 ⟨rfl, hb6⟩
      have HB6 := Lib.hid (HB5.out.trans (hb6.mono HB5.out.size))
      have HO6 := Lib.hid (HO5.out.below hb6)
      have HXY6 := Lib.hid (HXY.out.on hb6)
      clear hb6 HP x1 x2 x3 HB5 HO5 HXY
      have HAT := Lib.hid (fun W => AtLeast_new (plc y.2) W)
      generalize plc y.2 = pl at *
      have hgy6 : gy < w6.heap.size := (Array.getElem?_eq_some_iff.1 HXY6.out).1
      have HSB : Hid (∀ W', Below w6.heap.size w6 W' → HeldYp gy y.1 W') := Lib.hid (fun W' hb => (hb.cell (p := ⟨gy, 0, none⟩) hgy6).trans (cell_of_row _ _ 0 _ _ _ HXY6.out))
      obtain ⟨si0, hsi0, hsz0, hsz1, hsz2⟩ := info_parts info_reqs
      go_upto_region 13 with fail
      refine wp_region_noPanic ?_
      refine wp_region_held_drew (S := HeldYp gy y.1) (by kernel_rfl) (HSB.out _ (Below.refl _ _).drew) (fun hS0 => ?_)
      (refine wpAnyH_take (i := 0) (v := ?_) rfl (by kernel_rfl) (by kernel_rfl) (by kernel_rfl) (fun _ _ _ h => h) (Or.inl ⟨by rfl, ?_⟩) (by assumption) ?_; rotate_left; (· (intro w hSw; have y0 : w.cell? ⟨gy, 0, none⟩ = some (.string y.1) := hSw; go_simp; try with_reducible rfl)); (try simp only [zl1, zl2, zl3, Act.put, zl4, zl5, zl6]))
      (refine wpAnyH_take (i := 1) (v := ?_) rfl (by kernel_rfl) (by kernel_rfl) (by kernel_rfl) (fun _ _ _ h => h) (Or.inl ⟨by rfl, ?_⟩) (by assumption) ?_; rotate_left; (· (intro w hSw; have y0 : w.cell? ⟨gy, 0, none⟩ = some (.string y.1) := hSw; go_simp; try with_reducible rfl)); (try simp only [zl1, zl2, zl3, Act.put, zl4, zl5, zl6]))
      (refine wpAnyH_take (i := 2) (v := ?_) rfl (by kernel_rfl) (by kernel_rfl) (by kernel_rfl) (fun _ _ _ h => h) (Or.inl ⟨by rfl, ?_⟩) (by assumption) ?_; rotate_left; (· (intro w hSw; have y0 : w.cell? ⟨gy, 0, none⟩ = some (.string y.1) := hSw; go_simp; try with_reducible rfl)); (try simp only [zl1, zl2, zl3, Act.put, zl4, zl5, zl6]))
      (refine wpAnyH_take (i := 3) (v := ?_) rfl (by kernel_rfl) (by kernel_rfl) (by kernel_rfl) (fun _ _ _ h => h) (Or.inl ⟨by rfl, ?_⟩) (by assumption) ?_; rotate_left; (· (intro w hSw; have y0 : w.cell? ⟨gy, 0, none⟩ = some (.string y.1) := hSw; go_simp; try with_reducible rfl)); (try simp only [zl1, zl2, zl3, Act.put, zl4, zl5, zl6]))
      refine wpAnyH_ready (rs := [4]) (by kernel_rfl) (by simp) (AllReadyH.cons rfl (fun K hK => ?_) AllReadyH.nil)
      go_simp
      refine (HAT.out _).mono ?_
      rintro e w7 ⟨sv, rfl, hsv, hb7, hnew⟩
      have HB7 := Lib.hid ((Below.refl w6.heap.size w6).drew.trans hb7)
      have HNEW := Lib.hid (fun b (hb : sv.ownBlock = some b) => (show w6.heap.size ≤ b from hnew b hb))
      obtain ⟨va3, vc3, hve⟩ : ∃ a c, sv = .slice a (canon [(pl, 1000000)]).length c := by obtain ⟨a, c, e, _⟩ := hsv; exact ⟨a, c, e⟩
      have HSV := Lib.hid hsv
      clear hS0
      have hS0 := HSB.out _ HB7.out
      refine hK.out _ _ hS0 (fun _ => ?_)
      clear hK K hb7 hsv hnew
      (try simp only [zl1, zl2, zl3, Act.put, zl4, zl5, zl6])
      (refine wpAnyH_take (i := 5) (v := ?_) rfl (by kernel_rfl) (by kernel_rfl) (by kernel_rfl) (fun _ _ _ h => h) (Or.inl ⟨by rfl, ?_⟩) (by assumption) ?_; rotate_left; (· (intro w hSw; have y0 : w.cell? ⟨gy, 0, none⟩ = some (.string y.1) := hSw; go_simp; try with_reducible rfl)); (try simp only [zl1, zl2, zl3, Act.put, zl4, zl5, zl6]))
      have HO7 := Lib.hid (HO6.out.below HB7.out)
      have HLO : Hid (∀ b, sv.ownBlock = some b → (Value.slice oa k oc).ownBlock ≠ some b) := Lib.hid (fun b hb h2 => by
        have h3 := (HO6.out.own.lt b h2).2
        exact absurd (HNEW.out b hb) (Nat.not_le_of_lt h3))
      have HN8 : Hid ((w7.alloc (.cells #[.string y.1, sv] 58)).heap[w7.heap.size]? = some (.cells #[.string y.1, sv] 58)) := Lib.hid (heap_alloc_new w7 _)
      have HB8 := Lib.hid (HB7.out.alloc HB7.out.size (.cells #[.string y.1, sv] 58))
      have HSV8 := Lib.hid ((HSV.out.below (belQ w7 (.cells #[.string y.1, sv] 58)) (Nat.le_refl _)).mono (belQ w7 (.cells #[.string y.1, sv] 58)).size)
      have HO8 := Lib.hid (HO7.out.below (belQ w7 (.cells #[.string y.1, sv] 58)))
      subst hve
      refine wpAnyH_ready (rs := [6]) (by kernel_rfl) (by simp) (AllReadyH.cons rfl (fun K hK => ?_) AllReadyH.nil)
      go_simp
      clear hS0
      have hS0 := HSB.out _ HB8.out
      refine hK.out _ _ hS0 (fun _ => ?_)
      clear hK K
      (try simp only [zl1, zl2, zl3, Act.put, zl4, zl5, zl6])
      have HGY8 := Lib.hid ((HB8.out.block gy hgy6).trans HXY6.out)
      have HNE : Hid (∀ b, (Value.slice oa k oc).ownBlock = some b → b ≠ gy) := Lib.hid (fun b hb e => by
        obtain ⟨_, _, cs, hc⟩ := own_lo HO8.out.own b hb
        subst e
        have h1 := HGY8.out
        rw [hc] at h1
        injection h1 with h1
        injection h1 with _ h1
        exact absurd h1 (by decide))
      have hszA : w3.heap.size ≤ (w7.alloc (.cells #[.string y.1, .slice va3 (canon [(pl, 1000000)]).length vc3] 58)).heap.size := Nat.le_trans HB6.out.size HB8.out.size
      generalize hW8 : w7.alloc (.cells #[.string y.1, .slice va3 (canon [(pl, 1000000)]).length vc3] 58) = W8 at *
      clear hW8
      refine wpAnyH_ready (rs := [7]) (by kernel_rfl) (by simp) (AllReadyH.cons rfl (fun K hK => ?_) AllReadyH.nil)
      refine oper_of_list (ops := #[]) rfl ?_
      refine wpList_append_own_at _ rfl _ _ 26 rfl w3.heap.size 58 si0 _ 2 40 Tryz.underlying26 hsi0 hsz0 hsz1 hsz2 rfl (by decide) (.slice oa k oc) _ _ (by rfl) HO8.out.own ⟨w7.heap.size, 0, none⟩ 1 1 [.string y.1, .slice va3 (canon [(pl, 1000000)]).length vc3] (by rfl) (by rfl) (World.news_of_block HN8.out) (by simp [Value.oneCell']) (by rw [HRL.out]; unfold maxLen; omega) (by rw [HRL.out]; omega) hszA ?_
      intro v' wB hown' hgrow _ hat
      have HRX := Lib.hid (HO8.out.push (q := (y.1, canon [(pl, 1000000)])) HSV8.out (fun _ => HLO.out) hown' hgrow hat)
      have HGW := Lib.hid hgrow
      have HBF : Hid (Below w3.heap.size w3 wB) := Lib.hid ((HB6.out.trans (HB8.out.mono HB6.out.size)).grown hgrow hszA (fun b hb => (own_lo HO8.out.own b hb).1))
      obtain ⟨g3, gc3, rfl⟩ := ownsRow_succ hown'
      clear hown' hgrow hat
      have hSB : HeldYp gy y.1 wB := by
        have hS := HSB.out _ HB8.out
        exact (HGW.out.cell_far ⟨gy, 0, none⟩ (Nat.lt_of_lt_of_le hgy6 HB8.out.size) (fun e => HNE.out gy e.symm rfl)).trans hS
      refine wpList_nil ?_
      show K _ _
      refine hK.out _ _ hSB (fun _ => ?_)
      clear hK K hS0
      have hS0 := hSB
      clear hSB
      (try simp only [zl1, zl2, zl3, Act.put, zl4, zl5, zl6])
      (refine wpAnyH_take (i := 8) (v := ?_) rfl (by kernel_rfl) (by kernel_rfl) (by kernel_rfl) (fun _ _ _ h => h) (Or.inl ⟨by rfl, ?_⟩) (by assumption) ?_; rotate_left; (· (intro w hSw; have y0 : w.cell? ⟨gy, 0, none⟩ = some (.string y.1) := hSw; go_simp; try with_reducible rfl)); (try simp only [zl1, zl2, zl3, Act.put, zl4, zl5, zl6]))
      refine wpAnyH_done (by kernel_rfl) ?_ _
      refine NoPanic.normal ?_
      clear hS0 HSB HNE HGY8 HN8 HSV8 HO8 HB8 HB7 HO7 HLO HNEW HSV HAT HO6 HXY6 HB6
      go_wp2_with fail
      go_roundw
      case rel => exact Lib.hid ⟨k + 1, _, hlk, by go_num, by rw [HRW.out]; exact HRX.out, HBF.out⟩
      case measure => simp [intOf]; omega
    case neg =>
      have hkk : k = s.length := Nat.le_antisymm hk (Nat.le_of_not_lt hlk)
      subst hkk
      have HRO : Hid (ReqsOf wr.heap.size (.slice oa s.length oc) (ownL s) wr) := Lib.hid (by have := HO.out.now; rw [List.take_length, HROW.out] at this; exact this)
      have hol : (ownL s).length = s.length := by unfold ownL; rw [List.length_map]
      have HBw := Lib.hid (HB3.out.below HB.out)
      have HS4 := Lib.hid (HS3.out.on HB.out)
      have HMG := Lib.hid (Merge_any (.slice (some ⟨wr.heap.size, 0, none⟩) 2 2) [roots, ownL s] (wr.alloc (.cells #[.slice ra roots.length rc, .slice oa s.length oc] 26)) (HM.out.below (HBw.out.below (belQ wr _)).bel HM.out.pos) (by simp) (fun l hl => by
        rcases List.mem_cons.1 hl with h | h
        · rw [h]; exact ⟨hro2, HQB.out⟩
        · rw [List.mem_singleton.1 h]; exact ⟨by omega, HOBD.out⟩) (lists_two (HRo.out.on HBw.out.bel) HRO.out))
      have HMD : Hid (∀ all, mergeV [roots, ownL s] = (all, 0) → ReqsBd all ∧ all.length ≤ 16) := Lib.hid (fun all h => merge_bd h (fun l hl => by
        rcases List.mem_cons.1 hl with h | h
        · rw [h]; exact HQB.out
        · rw [List.mem_singleton.1 h]; exact HOBD.out))
      unfold MergeR at HMG
      obtain ⟨MV, hMV⟩ : ∃ MV, mergeV [roots, ownL s] = MV := ⟨_, rfl⟩
      rw [hMV] at HMG HMD HALL
      clear hMV
      obtain ⟨all, F⟩ := MV
      simp only at HMG
      have HBL : Hid (Below wr.heap.size wr (wr.alloc (.cells #[.slice ra roots.length rc, .slice oa s.length oc] 26))) := Lib.hid (belQ wr _)
      clear HO HRL
      go_wp2_with fail
      refine HMG.out.mono ?_
      rintro e w6 ⟨hb6, av, rfl, ha6, _⟩
      have hb46 := HBL.out.trans (hb6.mono HBL.out.size)
      have HB6 := Lib.hid (HBw.out.below hb46)
      have HS6 := Lib.hid (HS4.out.on hb46)
      have HA6 := Lib.hid ha6
      obtain ⟨aa, ac, rfl⟩ : ∃ x y, av = .slice x all.length y := by obtain ⟨x, y, e, _⟩ := ha6; exact ⟨x, y, e⟩
      clear hb6 hb46 ha6 HMG HBL HBw HS4 HRO HB
      go_upto_if 69 with fail
      go_cut [14, 15] from 70 to 83 (fun _ _ wx => Hid (Below w6.heap.size w6 wx))
      case first =>
        by_cases hF : F = 0
        case neg =>
          have hF2 : (F == 0) = false := by simpa using hF
          go_wp2_with fail
          go_meet
          exact Lib.hid (Below.refl _ _)
        case pos =>
          subst hF
          obtain ⟨habd, hal⟩ := HMD.out all rfl
          have hsel := HALL.out all rfl
          have HSX := Lib.hid (HSE.out w6 (.slice aa all.length ac) all HB6.out.bel (big6 (to20 hal)) habd HA6.out)
          rw [hsel] at HSX
          have c0 := HB6.out.c0
          have c1 := HB6.out.c1
          clear habd hsel
          go_wp2_with fail
          refine HSX.out.mono ?_
          rintro e w7 ⟨hb7, tv, rfl, ht7⟩
          have HW7 := Lib.hid hb7
          have HQ := Lib.hid (eq_sels (.slice sa s.length sc) tv s s w7 (big9 (to20 hs16)) (big9 (to20 hs16)) (HS6.out.on hb7) ht7)
          simp only [decide_true] at HQ
          obtain ⟨ta, tc, rfl⟩ : ∃ x y, tv = .slice x s.length y := by obtain ⟨x, y, e, _⟩ := ht7; exact ⟨x, y, e⟩
          clear hb7 ht7 c0 c1 HSX
          go_wp2_with fail
          refine HQ.out.mono ?_
          rintro e w8 ⟨rfl, hb8⟩
          have HW8 := Lib.hid (HW7.out.trans (hb8.mono HW7.out.size))
          clear hb8 HQ
          go_wp2_with fail
          go_meet
          exact HW8
      case rest =>
        have HBC := hcut
        generalize wc = w9 at *
        have HB9 := Lib.hid (HB6.out.below HBC.out)
        have HS9 := Lib.hid (HS6.out.on HBC.out)
        clear HB6 HS6 HA6 HMD HALL HBC
        have HRX := Lib.hid (Reduce_any (.slice a X.length c) iv (.slice sa s.length sc) X s w9 (HM.out.below HB9.out.bel HM.out.pos) (big6 hX2) HRB.out (HR.out.on HB9.out.bel) (big6 (to20 hs16)) HYS.out HS9.out)
        unfold ReduceR at HRX
        rw [HRED.out] at HRX
        have c0 := HB9.out.c0
        have c1 := HB9.out.c1
        go_wp2_with fail
        refine HRX.out.mono ?_
        rintro e w10 ⟨hb10, lv, rfl, hl10, hcap⟩
        have HB10 := Lib.hid (HB9.out.below hb10)
        have HS10 := Lib.hid (HS9.out.on hb10)
        have HL10 := Lib.hid hl10
        obtain ⟨la, lc, rfl⟩ : ∃ x y, lv = .slice x l.length y := by obtain ⟨x, y, e, _⟩ := hl10; exact ⟨x, y, e⟩
        have hlc := hcap.le
        clear hb10 hl10 hcap c0 c1 HRX HB9 HS9 HRED
        have HSX := Lib.hid (HSE.out w10 (.slice la l.length lc) l HB10.out.bel (big6 (to20 hl16)) HLBD.out HL10.out)
        rw [HSL.out] at HSX
        have c0 := HB10.out.c0
        have c1 := HB10.out.c1
        go_wp2_with fail
        refine HSX.out.mono ?_
        rintro e w11 ⟨hb11, tv, rfl, ht11⟩
        have HB11 := Lib.hid (HB10.out.below hb11)
        have HS11 := Lib.hid (HS10.out.on hb11)
        have HL11 := Lib.hid (HL10.out.on hb11)
        have HQ := Lib.hid (eq_sels (.slice sa s.length sc) tv s s w11 (big9 (to20 hs16)) (big9 (to20 hs16)) HS11.out ht11)
        simp only [decide_true] at HQ
        obtain ⟨ta, tc, rfl⟩ : ∃ x y, tv = .slice x s.length y := by obtain ⟨x, y, e, _⟩ := ht11; exact ⟨x, y, e⟩
        clear hb11 ht11 c0 c1 HSX HB10 HS10 HL10
        go_wp2_with fail
        refine HQ.out.mono ?_
        rintro e w12 ⟨rfl, hb12⟩
        have HB12 := Lib.hid (HB11.out.below hb12)
        have HS12 := Lib.hid (HS11.out.on hb12)
        have HL12 := Lib.hid (HL11.out.on hb12)
        clear hb12 HQ HB11 HS11 HL11 HSL
        go_wp2_with fail
        go_loopw [108] (fun p wr => Hid (∃ j : Nat, j ≤ l.length ∧ p = .int .i64 (j : Int) ∧ Below w12.heap.size w12 wr)) (fun p _ => l.length - (intOf p).toNat)
        case atStart => exact Lib.hid ⟨0, Nat.zero_le _, rfl, Below.refl _ _⟩
        case round =>
          obtain ⟨j, hj, rfl, hbb⟩ := hrel.out
          have HBB := Lib.hid hbb
          clear hrel hbb
          have HBr := Lib.hid (HB12.out.below HBB.out)
          by_cases hlj : j < l.length
          case neg =>
            have hjj : j = l.length := Nat.le_antisymm hj (Nat.le_of_not_lt hlj)
            subst hjj
            go_wp2_with fail
            go_ret
            exact ⟨rfl, HBr.out.bel⟩
          case pos =>
            have HLr := Lib.hid (HL12.out.on HBB.out)
            have HSr := Lib.hid (HS12.out.on HBB.out)
            obtain ⟨b3, off3, _, rfl, hb3, _, _, _⟩ := HLr.out.get hlj
            have hj0 : (0 : Int) ≤ (j : Int) := Int.natCast_nonneg j
            have hj9 : (j : Int) < (l.length : Int) := Int.ofNat_lt.2 hlj
            have hjc : (j : Int) ≤ (lc : Int) := kk4 hlj hlc
            have hjn : j ≤ l.length := Nat.le_of_lt hlj
            have hw1 : wrap64 ((j : Int) + 1) = (j : Int) + 1 := wrap_succ (kk6 hlj hl16)
            have hw2 : IntKind.i64.wrap ((j : Int) + 1) = (j : Int) + 1 := i64_succ (kk6 hlj hl16)
            have hj1 : (0 : Int) ≤ (j : Int) + 1 := kk0 j
            have hj2 : (j : Int) + 1 ≤ (l.length : Int) := kk5 hlj
            have hj3 : j + 1 ≤ l.length := hlj
            have hjj : (j : Int) ≤ (j : Int) + 1 := Int.le_add_one (Int.le_refl _)
            have HGV := Lib.hid (HLEAST.out j hlj)
            have HER := Lib.hid (erase_cut l j)
            have HSB : Hid (∀ W', Below wr.heap.size wr W' → HeldXr w.heap.size (.slice a X.length c) iv W') := Lib.hid (fun W' hb => ⟨(HBr.out.below hb).c0, (HBr.out.below hb).c1⟩)
            have HSN := Lib.hid (fun W v (hb : Below wr.heap.size wr W) (hL : ReqsOf W.heap.size v (l.eraseIdx j) W) => HSE.out W v (l.eraseIdx j) (HBr.out.bel.trans (hb.mono HBr.out.bel.size)) (erase_le hl16) (HEBD.out j) hL)
            obtain ⟨⟨u, G⟩, hUG⟩ : ∃ UG, selM false X (l.eraseIdx j) = UG := ⟨_, rfl⟩
            rw [hUG] at HSN
            have hul : u.length ≤ X.length := by have h := selM_len (nw := false) (X := X) (roots := l.eraseIdx j); rw [hUG] at h; exact h
            have HNO : Hid (G = 0 → decide (s = u) = false) := Lib.hid (fun hG => by
              have h := HGV.out
              unfold givesB at h
              rw [hUG] at h
              simp only [hG, decide_true, Bool.and_true] at h
              have hne := of_decide_eq_false h
              exact decide_eq_false (fun e => hne e.symm))
            clear hUG HGV
            go_upto_region 29 with fail
            go_cut [19, 20] from 111 to 124 (fun s19 s20 wx => ∃ (x : Option Addr) (y : Nat), s19 = .slice x u.length y ∧ s20 = .int .i64 G ∧ Hid (SelsOf wx.heap.size (.slice x u.length y) u wx) ∧ Hid (Below wr.heap.size wr wx))
            case first =>
              by_cases hcj : lc = j + 1
              case pos =>
                have HNIL := Lib.hid (drop_none hlc hcj)
                subst hcj
                refine wp_region_noPanic ?_
                refine wp_region_held_drew (S := HeldXr w.heap.size (.slice a X.length c) iv) (by kernel_rfl) (HSB.out _ (Below.refl _ _).drew) (fun hS0 => ?_)
                (refine wpAnyH_take (i := 0) (v := ?_) rfl (by kernel_rfl) (by kernel_rfl) (by kernel_rfl) (fun _ _ _ h => h) (Or.inl ⟨by rfl, ?_⟩) (by assumption) ?_; rotate_left; (· (intro w hSw; obtain ⟨x0, x1⟩ := hSw; go_simp; try with_reducible rfl)); (try simp only [zl1, zl2, zl3, Act.put, zl4, zl5, zl6]))
                (refine wpAnyH_take (i := 1) (v := ?_) rfl (by kernel_rfl) (by kernel_rfl) (by kernel_rfl) (fun _ _ _ h => h) (Or.inl ⟨by rfl, ?_⟩) (by assumption) ?_; rotate_left; (· (intro w hSw; obtain ⟨x0, x1⟩ := hSw; go_simp; try with_reducible rfl)); (try simp only [zl1, zl2, zl3, Act.put, zl4, zl5, zl6]))
                (refine wpAnyH_take (i := 2) (v := ?_) rfl (by kernel_rfl) (by kernel_rfl) (by kernel_rfl) (fun _ _ _ h => h) (Or.inl ⟨by rfl, ?_⟩) (by assumption) ?_; rotate_left; (· (intro w hSw; obtain ⟨x0, x1⟩ := hSw; go_simp; try with_reducible rfl)); (try simp only [zl1, zl2, zl3, Act.put, zl4, zl5, zl6]))
                (refine wpAnyH_take (i := 3) (v := ?_) rfl (by kernel_rfl) (by kernel_rfl) (by kernel_rfl) (fun _ _ _ h => h) (Or.inl ⟨by rfl, ?_⟩) (by assumption) ?_; rotate_left; (· (intro w hSw; obtain ⟨x0, x1⟩ := hSw; go_simp; try with_reducible rfl)); (try simp only [zl1, zl2, zl3, Act.put, zl4, zl5, zl6]))
                (refine wpAnyH_take (i := 4) (v := ?_) rfl (by kernel_rfl) (by kernel_rfl) (by kernel_rfl) (fun _ _ _ h => h) (Or.inl ⟨by rfl, ?_⟩) (by assumption) ?_; rotate_left; (· (intro w hSw; obtain ⟨x0, x1⟩ := hSw; go_simp; try with_reducible rfl)); (try simp only [zl1, zl2, zl3, Act.put, zl4, zl5, zl6]))
                (refine wpAnyH_take (i := 5) (v := ?_) rfl (by kernel_rfl) (by kernel_rfl) (by kernel_rfl) (fun _ _ _ h => h) (Or.inl ⟨by rfl, ?_⟩) (by assumption) ?_; rotate_left; (· (intro w hSw; obtain ⟨x0, x1⟩ := hSw; go_simp; try with_reducible rfl)); (try simp only [zl1, zl2, zl3, Act.put, zl4, zl5, zl6]))
                (refine wpAnyH_take (i := 6) (v := ?_) rfl (by kernel_rfl) (by kernel_rfl) (by kernel_rfl) (fun _ _ _ h => h) (Or.inl ⟨by rfl, ?_⟩) (by assumption) ?_; rotate_left; (· (intro w hSw; obtain ⟨x0, x1⟩ := hSw; go_simp; try with_reducible rfl)); (try simp only [zl1, zl2, zl3, Act.put, zl4, zl5, zl6]))
                (refine wpAnyH_take (i := 7) (v := ?_) rfl (by kernel_rfl) (by kernel_rfl) (by kernel_rfl) (fun _ _ _ h => h) (Or.inl ⟨by rfl, ?_⟩) (by assumption) ?_; rotate_left; (· (intro w hSw; obtain ⟨x0, x1⟩ := hSw; go_simp; try with_reducible rfl)); (try simp only [zl1, zl2, zl3, Act.put, zl4, zl5, zl6]))
                have HBL : Hid (Below wr.heap.size wr (wr.drew.alloc (.cells #[.slice (some ⟨b3, off3, none⟩) j (j + 1), .slice (some ⟨b3, off3, none⟩) 0 0] 26))) := Lib.hid ((Below.refl wr.heap.size wr).drew.trans (belQ wr.drew _))
                have hdr : ReqsOf wr.drew.heap.size (.slice (some ⟨b3, off3, none⟩) 0 0) (l.drop (j + 1)) wr.drew := (by rw [HNIL.out]; exact none_rest2 0)
                have HLT := Lib.hid (lists_two (W := wr.drew) ((HLr.out.on (Below.refl wr.heap.size wr).drew).cut hjn) hdr)
                have HCC := Lib.hid (concat_reqs _ [l.take j, l.drop (j + 1)] _ (by simp) (reqs_len2 hlj hl16) HLT.out)
                rw [flat_two, ← HER.out] at HCC
                clear hdr
                refine wpAnyH_ready (rs := [8]) (by kernel_rfl) (by simp) (AllReadyH.cons rfl (fun K hK => ?_) AllReadyH.nil)
                go_simp
                clear hS0
                have hS0 := HSB.out _ HBL.out
                refine hK.out _ _ hS0 (fun _ => ?_)
                clear hK K
                (try simp only [zl1, zl2, zl3, Act.put, zl4, zl5, zl6])
                refine wpAnyH_ready (rs := [9]) (by kernel_rfl) (by simp) (AllReadyH.cons rfl (fun K hK => ?_) AllReadyH.nil)
                go_simp
                refine (HCC.out).mono ?_
                rintro e w13 ⟨cv, rfl, hcv, hb13⟩
                have HB13 := Lib.hid (HBL.out.trans (hb13.mono HBL.out.size))
                have HCV := Lib.hid hcv
                obtain ⟨cx, cy, rfl⟩ : ∃ x y, cv = .slice x (l.eraseIdx j).length y := by obtain ⟨x, y, e, _⟩ := hcv; exact ⟨x, y, e⟩
                have HSY := Lib.hid (HSN.out w13 _ HB13.out HCV.out)
                clear hS0
                have hS0 := HSB.out _ HB13.out
                refine hK.out _ _ hS0 (fun _ => ?_)
                clear hK K hb13 hcv
                (try simp only [zl1, zl2, zl3, Act.put, zl4, zl5, zl6])
                refine wpAnyH_ready (rs := [10]) (by kernel_rfl) (by simp) (AllReadyH.cons rfl (fun K hK => ?_) AllReadyH.nil)
                go_simp
                refine (HSY.out).mono ?_
                rintro e w14 ⟨hb14, uv, rfl, hu14⟩
                have HB14 := Lib.hid (HB13.out.trans (hb14.mono HB13.out.size))
                have HU14 := Lib.hid hu14
                obtain ⟨ux, uy, rfl⟩ : ∃ x y, uv = .slice x u.length y := by obtain ⟨x, y, e, _⟩ := hu14; exact ⟨x, y, e⟩
                clear hS0
                have hS0 := HSB.out _ HB14.out
                refine hK.out _ _ hS0 (fun _ => ?_)
                clear hK K hb14 hu14
                (try simp only [zl1, zl2, zl3, Act.put, zl4, zl5, zl6])
                (refine wpAnyH_take (i := 11) (v := ?_) rfl (by kernel_rfl) (by kernel_rfl) (by kernel_rfl) (fun _ _ _ h => h) (Or.inl ⟨by rfl, ?_⟩) (by assumption) ?_; rotate_left; (· (intro w hSw; obtain ⟨x0, x1⟩ := hSw; go_simp; try with_reducible rfl)); (try simp only [zl1, zl2, zl3, Act.put, zl4, zl5, zl6]))
                (refine wpAnyH_take (i := 12) (v := ?_) rfl (by kernel_rfl) (by kernel_rfl) (by kernel_rfl) (fun _ _ _ h => h) (Or.inl ⟨by rfl, ?_⟩) (by assumption) ?_; rotate_left; (· (intro w hSw; obtain ⟨x0, x1⟩ := hSw; go_simp; try with_reducible rfl)); (try simp only [zl1, zl2, zl3, Act.put, zl4, zl5, zl6]))
                (refine wpAnyH_take (i := 13) (v := ?_) rfl (by kernel_rfl) (by kernel_rfl) (by kernel_rfl) (fun _ _ _ h => h) (Or.inl ⟨by rfl, ?_⟩) (by assumption) ?_; rotate_left; (· (intro w hSw; obtain ⟨x0, x1⟩ := hSw; go_simp; try with_reducible rfl)); (try simp only [zl1, zl2, zl3, Act.put, zl4, zl5, zl6]))
                (refine wpAnyH_take (i := 14) (v := ?_) rfl (by kernel_rfl) (by kernel_rfl) (by kernel_rfl) (fun _ _ _ h => h) (Or.inl ⟨by rfl, ?_⟩) (by assumption) ?_; rotate_left; (· (intro w hSw; obtain ⟨x0, x1⟩ := hSw; go_simp; try with_reducible rfl)); (try simp only [zl1, zl2, zl3, Act.put, zl4, zl5, zl6]))
                (refine wpAnyH_take (i := 15) (v := ?_) rfl (by kernel_rfl) (by kernel_rfl) (by kernel_rfl) (fun _ _ _ h => h) (Or.inl ⟨by rfl, ?_⟩) (by assumption) ?_; rotate_left; (· (intro w hSw; obtain ⟨x0, x1⟩ := hSw; go_simp; try with_reducible rfl)); (try simp only [zl1, zl2, zl3, Act.put, zl4, zl5, zl6]))
                refine wpAnyH_done (by kernel_rfl) ?_ _
                refine NoPanic.normal ?_
                clear hw1 hw2
                go_wp2_with fail
                go_meet
                exact ⟨_, _, rfl, rfl, HU14, HB14⟩
              case neg =>
                refine wp_region_noPanic ?_
                refine wp_region_held_drew (S := HeldXr w.heap.size (.slice a X.length c) iv) (by kernel_rfl) (HSB.out _ (Below.refl _ _).drew) (fun hS0 => ?_)
                (refine wpAnyH_take (i := 0) (v := ?_) rfl (by kernel_rfl) (by kernel_rfl) (by kernel_rfl) (fun _ _ _ h => h) (Or.inl ⟨by rfl, ?_⟩) (by assumption) ?_; rotate_left; (· (intro w hSw; obtain ⟨x0, x1⟩ := hSw; go_simp; try with_reducible rfl)); (try simp only [zl1, zl2, zl3, Act.put, zl4, zl5, zl6]))
                (refine wpAnyH_take (i := 1) (v := ?_) rfl (by kernel_rfl) (by kernel_rfl) (by kernel_rfl) (fun _ _ _ h => h) (Or.inl ⟨by rfl, ?_⟩) (by assumption) ?_; rotate_left; (· (intro w hSw; obtain ⟨x0, x1⟩ := hSw; go_simp; try with_reducible rfl)); (try simp only [zl1, zl2, zl3, Act.put, zl4, zl5, zl6]))
                (refine wpAnyH_take (i := 2) (v := ?_) rfl (by kernel_rfl) (by kernel_rfl) (by kernel_rfl) (fun _ _ _ h => h) (Or.inl ⟨by rfl, ?_⟩) (by assumption) ?_; rotate_left; (· (intro w hSw; obtain ⟨x0, x1⟩ := hSw; go_simp; try with_reducible rfl)); (try simp only [zl1, zl2, zl3, Act.put, zl4, zl5, zl6]))
                (refine wpAnyH_take (i := 3) (v := ?_) rfl (by kernel_rfl) (by kernel_rfl) (by kernel_rfl) (fun _ _ _ h => h) (Or.inl ⟨by rfl, ?_⟩) (by assumption) ?_; rotate_left; (· (intro w hSw; obtain ⟨x0, x1⟩ := hSw; go_simp; try with_reducible rfl)); (try simp only [zl1, zl2, zl3, Act.put, zl4, zl5, zl6]))
                (refine wpAnyH_take (i := 4) (v := ?_) rfl (by kernel_rfl) (by kernel_rfl) (by kernel_rfl) (fun _ _ _ h => h) (Or.inl ⟨by rfl, ?_⟩) (by assumption) ?_; rotate_left; (· (intro w hSw; obtain ⟨x0, x1⟩ := hSw; go_simp; try with_reducible rfl)); (try simp only [zl1, zl2, zl3, Act.put, zl4, zl5, zl6]))
                (refine wpAnyH_take (i := 5) (v := ?_) rfl (by kernel_rfl) (by kernel_rfl) (by kernel_rfl) (fun _ _ _ h => h) (Or.inl ⟨by rfl, ?_⟩) (by assumption) ?_; rotate_left; (· (intro w hSw; obtain ⟨x0, x1⟩ := hSw; go_simp; try with_reducible rfl)); (try simp only [zl1, zl2, zl3, Act.put, zl4, zl5, zl6]))
                (refine wpAnyH_take (i := 6) (v := ?_) rfl (by kernel_rfl) (by kernel_rfl) (by kernel_rfl) (fun _ _ _ h => h) (Or.inl ⟨by rfl, ?_⟩) (by assumption) ?_; rotate_left; (· (intro w hSw; obtain ⟨x0, x1⟩ := hSw; go_simp; try with_reducible rfl)); (try simp only [zl1, zl2, zl3, Act.put, zl4, zl5, zl6]))
                (refine wpAnyH_take (i := 7) (v := ?_) rfl (by kernel_rfl) (by kernel_rfl) (by kernel_rfl) (fun _ _ _ h => h) (Or.inl ⟨by rfl, ?_⟩) (by assumption) ?_; rotate_left; (· (intro w hSw; obtain ⟨x0, x1⟩ := hSw; go_simp; try with_reducible rfl)); (try simp only [zl1, zl2, zl3, Act.put, zl4, zl5, zl6]))
                have HBL : Hid (Below wr.heap.size wr (wr.drew.alloc (.cells #[.slice (some ⟨b3, off3, none⟩) j lc, .slice (some ⟨b3, off3 + (j + 1) * 2, none⟩) (l.length - (j + 1)) (lc - (j + 1))] 26))) := Lib.hid ((Below.refl wr.heap.size wr).drew.trans (belQ wr.drew _))
                have hdr : ReqsOf wr.drew.heap.size (.slice (some ⟨b3, off3 + (j + 1) * 2, none⟩) (l.length - (j + 1)) (lc - (j + 1))) (l.drop (j + 1)) wr.drew := (by have := (HLr.out.on (Below.refl wr.heap.size wr).drew).rest (j + 1) (lc - (j + 1)); rwa [List.length_drop] at this)
                have HLT := Lib.hid (lists_two (W := wr.drew) ((HLr.out.on (Below.refl wr.heap.size wr).drew).cut hjn) hdr)
                have HCC := Lib.hid (concat_reqs _ [l.take j, l.drop (j + 1)] _ (by simp) (reqs_len2 hlj hl16) HLT.out)
                rw [flat_two, ← HER.out] at HCC
                clear hdr
                refine wpAnyH_ready (rs := [8]) (by kernel_rfl) (by simp) (AllReadyH.cons rfl (fun K hK => ?_) AllReadyH.nil)
                go_simp
                clear hS0
                have hS0 := HSB.out _ HBL.out
                refine hK.out _ _ hS0 (fun _ => ?_)
                clear hK K
                (try simp only [zl1, zl2, zl3, Act.put, zl4, zl5, zl6])
                refine wpAnyH_ready (rs := [9]) (by kernel_rfl) (by simp) (AllReadyH.cons rfl (fun K hK => ?_) AllReadyH.nil)
                go_simp
                refine (HCC.out).mono ?_
                rintro e w13 ⟨cv, rfl, hcv, hb13⟩
                have HB13 := Lib.hid (HBL.out.trans (hb13.mono HBL.out.size))
                have HCV := Lib.hid hcv
                obtain ⟨cx, cy, rfl⟩ : ∃ x y, cv = .slice x (l.eraseIdx j).length y := by obtain ⟨x, y, e, _⟩ := hcv; exact ⟨x, y, e⟩
                have HSY := Lib.hid (HSN.out w13 _ HB13.out HCV.out)
                clear hS0
                have hS0 := HSB.out _ HB13.out
                refine hK.out _ _ hS0 (fun _ => ?_)
                clear hK K hb13 hcv
                (try simp only [zl1, zl2, zl3, Act.put, zl4, zl5, zl6])
                refine wpAnyH_ready (rs := [10]) (by kernel_rfl) (by simp) (AllReadyH.cons rfl (fun K hK => ?_) AllReadyH.nil)
                go_simp
                refine (HSY.out).mono ?_
                rintro e w14 ⟨hb14, uv, rfl, hu14⟩
                have HB14 := Lib.hid (HB13.out.trans (hb14.mono HB13.out.size))
                have HU14 := Lib.hid hu14
                obtain ⟨ux, uy, rfl⟩ : ∃ x y, uv = .slice x u.length y := by obtain ⟨x, y, e, _⟩ := hu14; exact ⟨x, y, e⟩
                clear hS0
                have hS0 := HSB.out _ HB14.out
                refine hK.out _ _ hS0 (fun _ => ?_)
                clear hK K hb14 hu14
                (try simp only [zl1, zl2, zl3, Act.put, zl4, zl5, zl6])
                (refine wpAnyH_take (i := 11) (v := ?_) rfl (by kernel_rfl) (by kernel_rfl) (by kernel_rfl) (fun _ _ _ h => h) (Or.inl ⟨by rfl, ?_⟩) (by assumption) ?_; rotate_left; (· (intro w hSw; obtain ⟨x0, x1⟩ := hSw; go_simp; try with_reducible rfl)); (try simp only [zl1, zl2, zl3, Act.put, zl4, zl5, zl6]))
                (refine wpAnyH_take (i := 12) (v := ?_) rfl (by kernel_rfl) (by kernel_rfl) (by kernel_rfl) (fun _ _ _ h => h) (Or.inl ⟨by rfl, ?_⟩) (by assumption) ?_; rotate_left; (· (intro w hSw; obtain ⟨x0, x1⟩ := hSw; go_simp; try with_reducible rfl)); (try simp only [zl1, zl2, zl3, Act.put, zl4, zl5, zl6]))
                (refine wpAnyH_take (i := 13) (v := ?_) rfl (by kernel_rfl) (by kernel_rfl) (by kernel_rfl) (fun _ _ _ h => h) (Or.inl ⟨by rfl, ?_⟩) (by assumption) ?_; rotate_left; (· (intro w hSw; obtain ⟨x0, x1⟩ := hSw; go_simp; try with_reducible rfl)); (try simp only [zl1, zl2, zl3, Act.put, zl4, zl5, zl6]))
                (refine wpAnyH_take (i := 14) (v := ?_) rfl (by kernel_rfl) (by kernel_rfl) (by kernel_rfl) (fun _ _ _ h => h) (Or.inl ⟨by rfl, ?_⟩) (by assumption) ?_; rotate_left; (· (intro w hSw; obtain ⟨x0, x1⟩ := hSw; go_simp; try with_reducible rfl)); (try simp only [zl1, zl2, zl3, Act.put, zl4, zl5, zl6]))
                (refine wpAnyH_take (i := 15) (v := ?_) rfl (by kernel_rfl) (by kernel_rfl) (by kernel_rfl) (fun _ _ _ h => h) (Or.inl ⟨by rfl, ?_⟩) (by assumption) ?_; rotate_left; (· (intro w hSw; obtain ⟨x0, x1⟩ := hSw; go_simp; try with_reducible rfl)); (try simp only [zl1, zl2, zl3, Act.put, zl4, zl5, zl6]))
                refine wpAnyH_done (by kernel_rfl) ?_ _
                refine NoPanic.normal ?_
                clear hw1 hw2
                go_wp2_with fail
                go_meet
                exact ⟨_, _, rfl, rfl, HU14, HB14⟩
            case rest =>
              obtain ⟨ux, uy, rfl, rfl, HU, HBC⟩ := hcut
              generalize wc = w15 at *
              have HW15 := Lib.hid (HBB.out.trans (HBC.out.mono HBB.out.size))
              have HQ := Lib.hid (eq_sels (.slice sa s.length sc) (.slice ux u.length uy) s u w15 (big9 (to20 hs16)) (big9 (Nat.le_trans hul hX2)) (HSr.out.on HBC.out) HU.out)
              clear hw1 hw2 HBC HU
              by_cases hG : G = 0
              case neg =>
                have hG2 : (G == 0) = false := by simpa using hG
                go_wp2_with fail
                go_roundw
                case rel => exact Lib.hid ⟨j + 1, hlj, by go_num, HW15.out⟩
                case measure => simp [intOf]; omega
              case pos =>
                rw [HNO.out hG] at HQ
                subst hG
                go_wp2_with fail
                refine HQ.out.mono ?_
                rintro e w16 ⟨rfl, hb16⟩
                have HW16 := Lib.hid (HW15.out.trans (hb16.mono HW15.out.size))
                clear hb16 HQ
                go_wp2_with fail
                go_roundw
                case rel => exact Lib.hid ⟨j + 1, hlj, by go_num, HW16.out⟩
                case measure => simp [intOf]; omega
end Go.Proofs.YtenfkejbndifdaaGreatDoor
