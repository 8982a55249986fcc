/- Contract of the constraint's Has. The index's place and the closure of Solves that sees a broken requirement. Contracts of mvs: upward, Plain, place, selected. Solves: the map of the selected releases, filled one after another; what Solves returns. -/
import Derived.Test.YtenfkejbndifdaaGreatDoorQF
import Derived.Test.YtenfkejbndifdaaGreatDoorQA
import Derived.Test.YtenfkejbndifdaaGreatDoorQV
import Derived.Test.YtenfkejbndifdaaGreatDoorQR
import Derived.Test.YtenfkejbndifdaaGreatDoorQN
import Derived.Test.YtenfkejbndifdaaGreatDoorQM
import Derived.Test.YtenfkejbndifdaaGreatDoorQJ
import Derived.Test.YtenfkejbndifdaaGreatDoorQH
namespace Go.Proofs.YtenfkejbndifdaaGreatDoor
set_option linter.unusedVariables false
set_option linter.unusedSimpArgs false
open Go Go.RowKit

/-- a place is in a span. -/
def inB (p : Int) (x : Int × Int) : Bool := decide (x.1 ≤ p) && decide (p < x.2)
theorem hasB_eq (s : List (Int × Int)) (p : Int) : hasB s p = ((decide (0 ≤ p) && decide (p < 1000000)) && s.any (inB p)) := rfl
set_option maxRecDepth 100000 in
theorem inCl_any (pb : Nat) (p a b : Int) (W : World) (hc : W.cell? ⟨pb, 0, none⟩ = some (intC p)) :
    Calls Tryz.prog 164 #[.agg #[intC a, intC b], .pointer (some ⟨pb, 0, none⟩)] W fun e w' => e = .returned (.bool (inB p (a, b))) ∧ Below W.heap.size W w' := by
  have hlt : pb < W.heap.size := World.block_lt_of_cell? _ _ hc
  have hne : pb ≠ W.heap.size := by omega
  by_cases h1 : a ≤ p
  · by_cases h2 : p < b
    · have HE : Hid (inB p (a, b) = true) := Lib.hid (by simp [inB, h1, h2])
      rw [HE.out]
      go_enter Tryz.func164, Tryz.ntmps164
      go_wp2
      go_ret
      exact ⟨rfl, (by repeat (first | exact Below.refl _ _ | refine Below.drew ?_ | refine Below.alloc ?_ (by simp <;> omega) _ | refine Below.setCell ?_ (by simp <;> omega) _))⟩
    · have HE : Hid (inB p (a, b) = false) := Lib.hid (by simp [inB, h1, h2])
      rw [HE.out]
      go_enter Tryz.func164, Tryz.ntmps164
      go_wp2
      go_ret
      exact ⟨rfl, (by repeat (first | exact Below.refl _ _ | refine Below.drew ?_ | refine Below.alloc ?_ (by simp <;> omega) _ | refine Below.setCell ?_ (by simp <;> omega) _))⟩
  · have HE : Hid (inB p (a, b) = false) := Lib.hid (by simp [inB, h1])
    rw [HE.out]
    go_enter Tryz.func164, Tryz.ntmps164
    go_wp2
    go_ret
    exact ⟨rfl, (by repeat (first | exact Below.refl _ _ | refine Below.drew ?_ | refine Below.alloc ?_ (by simp <;> omega) _ | refine Below.setCell ?_ (by simp <;> omega) _))⟩
set_option maxRecDepth 100000 in
theorem Has_any (v : Value) (s : List (Int × Int)) (p : Int) (w : World) (hs : s.length ≤ 1000000000) (hE : SpansOf w.heap.size v s w) :
    Calls Tryz.prog 134 #[v, .int .i64 p] w fun e w' => e = .returned (.bool (hasB s p)) ∧ Below w.heap.size w w' := by
  have hb0 : Below w.heap.size w (w.alloc (.cells #[intC p] 3)) := (Below.refl _ _).alloc (Nat.le_refl _) _
  have hcall := has_spanE 164 #[.pointer (some ⟨w.heap.size, 0, none⟩)] (enters_of Tryz.func164 (by kernel_rfl) rfl) (inB p) v s (w.alloc (.cells #[intC p] 3)) hs
    ((hE.below hb0 (Nat.le_refl _)).mono (by simp)) (fun W x _ hW => (inCl_any w.heap.size p x.1 x.2 W (by
      rw [hW.cell (p := ⟨w.heap.size, 0, none⟩) (by simp)]
      simp [go_sem])).mono fun e w' h => ⟨h.1, hW.trans (h.2.mono hW.size)⟩)
  by_cases h0 : 0 ≤ p
  · by_cases h1 : p < 1000000
    · have he : hasB s p = s.any (inB p) := by rw [hasB_eq]; simp [h0, h1]
      rw [he]
      generalize s.any (inB p) = q at *
      have HC := Lib.hid hcall
      clear hcall he
      obtain ⟨ao, ec, rfl, _⟩ := hE
      go_enter Tryz.func134, Tryz.ntmps134
      go_wp2_with ((with_reducible refine HC.out.mono ?_); rintro e w' ⟨rfl, hb⟩)
      go_ret
      exact ⟨rfl, hb0.trans (hb.mono (by simp))⟩
    · have he : hasB s p = false := by rw [hasB_eq]; simp [h1]
      rw [he]
      clear hcall he
      go_enter Tryz.func134, Tryz.ntmps134
      go_wp2
      go_ret
      exact ⟨rfl, hb0⟩
  · have he : hasB s p = false := by rw [hasB_eq]; simp [h0]
    rw [he]
    clear hcall he
    go_enter Tryz.func134, Tryz.ntmps134
    go_wp2
    go_ret
    exact ⟨rfl, hb0⟩
end Go.Proofs.YtenfkejbndifdaaGreatDoor

namespace Go.Proofs.YtenfkejbndifdaaGreatDoor
set_option linter.unusedVariables false
set_option linter.unusedSimpArgs false
open Go Go.RowKit Go.Maps

set_option maxRecDepth 100000 in
theorem iplace_any (x : RelL) (r : Value) (w : World) : Calls Tryz.prog 135 #[.agg (relC x r)] w fun e w' => e = .returned (.int .i64 (placeV x.ver.1 x.ver.2.1 x.ver.2.2).1) ∧ Below w.heap.size w w' := by
  obtain ⟨p, ⟨v1, v2, v3⟩, rq, sa, si, sc, yk⟩ := x
  unfold relC
  simp only
  obtain ⟨⟨pl, pe⟩, hpl⟩ : ∃ z, placeV v1 v2 v3 = z := ⟨_, rfl⟩
  have HP := Lib.hid (fun W => Place_any v1 v2 v3 W)
  rw [hpl] at HP ⊢
  clear hpl
  go_enter Tryz.func135, Tryz.ntmps135
  go_wp2_with (go_at_call 40; refine (HP.out _).mono ?_; rintro e w' ⟨rfl, hb⟩)
  go_ret
  exact ⟨rfl, (belQ w _).trans (hb.mono (by simp))⟩
/-- the map of the selected releases by their paths. -/
def SelF (G : RelL → Value → Prop) (s : List SelL) (f : Lit → Option Value) : Prop :=
  ∀ p : ByteArray, (∃ x r, keyL x ∈ s ∧ x.path = p ∧ G x r ∧ f (.string p.data.toList) = some (.agg (relC x r))) ∨ (f (.string p.data.toList) = none ∧ ∀ y ∈ s, y.1 ≠ p)
theorem metB_none {s : List SelL} {q : ReqL} (h : ∀ y ∈ s, y.1 ≠ q.1) : metB s q = false := by
  unfold metB
  rw [List.any_eq_false]
  intro y hy e
  rw [Bool.and_eq_true] at e
  exact h y hy (of_decide_eq_true e.1)
theorem nodup_one {s : List SelL} (hn : (s.map (·.1)).Nodup) {a b : SelL} (ha : a ∈ s) (hb : b ∈ s) (e : a.1 = b.1) : a = b := by
  induction s with
  | nil => cases ha
  | cons y s ih =>
    rw [List.map_cons, List.nodup_cons] at hn
    rcases List.mem_cons.1 ha with h1 | h1 <;> rcases List.mem_cons.1 hb with h2 | h2
    · rw [h1, h2]
    · subst h1; exact absurd (List.mem_map.2 ⟨b, h2, e.symm⟩) hn.1
    · subst h2; exact absurd (List.mem_map.2 ⟨a, h1, e⟩) hn.1
    · exact ih hn.2 h1 h2
theorem metB_one {s : List SelL} {q : ReqL} {y : SelL} (hn : (s.map (·.1)).Nodup) (hy : y ∈ s) (e : y.1 = q.1) : metB s q = hasB q.2 (1000 * y.2.2.1 + y.2.2.2) := by
  unfold metB
  cases hb : hasB q.2 (1000 * y.2.2.1 + y.2.2.2) with
  | true =>
    rw [List.any_eq_true]
    exact ⟨y, hy, by rw [hb, Bool.and_true]; exact decide_eq_true e⟩
  | false =>
    rw [List.any_eq_false]
    intro z hz h
    rw [Bool.and_eq_true] at h
    have hzy : z.1 = y.1 := (of_decide_eq_true h.1).trans e.symm
    have : z = y := nodup_one hn hz hy hzy
    subst this
    rw [hb] at h
    cases h.2
theorem keepX {W w' : World} {g : Nat} {x : RelL} {r rx : Value} (hg : g < W.heap.size) (h : W.cell? ⟨g, 1, none⟩ = some r ∧ BoxR W (g + 1) x rx) (hb : Below W.heap.size W w') : w'.cell? ⟨g, 1, none⟩ = some r ∧ BoxR w' (g + 1) x rx :=
  ⟨(hb.cell (p := ⟨g, 1, none⟩) hg).trans h.1, h.2.on hb⟩
set_option maxRecDepth 100000 in
set_option maxHeartbeats 4000000 in
/-- the closure that sees whether a requirement is broken. -/
theorem broken_any (G : RelL → Value → Prop) (hG : ∀ x r, G x r → ∃ a n c, r = .slice a n c) (s : List SelL) (f : Lit → Option Value) (hn : (s.map (·.1)).Nodup) (hv : ∀ y ∈ s, validB y.2.1 y.2.2.1 y.2.2.2 = true) (hF : SelF G s f) (q : ReqL) (r : Value) (m n c : Nat) (W : World)
    (hq : q.1.size ≤ 1000000) (hl : q.2.length ≤ 1000000000) (hS : SpansOf W.heap.size r q.2 W) (hm : MapF Tryz.prog 9 W m n f) (hc : W.cell? ⟨c, 0, none⟩ = some (.map (some m))) :
    Calls Tryz.prog 133 #[.agg #[.string q.1, r], .pointer (some ⟨c, 0, none⟩)] W fun e w' => e = .returned (.bool (!metB s q)) ∧ Below W.heap.size W w' := by
  have hlt := World.block_lt_of_cell? _ _ hc
  simp only at hlt
  have HKY := Lib.hid (keyStr (p := q.1) (by unfold maxLen; omega))
  have HMF := Lib.hid (hm.alloc (.cells #[.string q.1, r] 58))
  have HZR := Lib.hid (show ∀ W, (zeroValue 71).run Tryz.prog W = .ok zeroR W from Tryz.zeroValue71)
  rcases hF q.1 with ⟨x, rx, h1, h2, h3, h4⟩ | ⟨h1, h2⟩
  · obtain ⟨xa, xn, xc, rfl⟩ := hG _ _ h3
    clear h3
    obtain ⟨pq, sq⟩ := q
    simp only at hq hl hS HKY HMF h2 h4
    subst h2
    have HME := Lib.hid (metB_one (q := (x.path, sq)) hn h1 rfl)
    have HVB := Lib.hid (show placeV x.ver.1 x.ver.2.1 x.ver.2.2 = (1000 * x.ver.2.1 + x.ver.2.2, 0) by unfold placeV; rw [if_pos (show validB x.ver.1 x.ver.2.1 x.ver.2.2 = true from hv _ h1)])
    obtain ⟨mb, hmb⟩ : ∃ mb, metB s (x.path, sq) = mb := ⟨_, rfl⟩
    rw [hmb]
    have HHB := Lib.hid (show hasB sq (1000 * x.ver.2.1 + x.ver.2.2) = mb from HME.out.symm.trans hmb)
    have HPL := Lib.hid (fun W => iplace_any x (.slice xa xn xc) W)
    rw [HVB.out] at HPL
    have HHA := Lib.hid (fun W' (hb : Below W.heap.size W W') => Has_any r sq (1000 * x.ver.2.1 + x.ver.2.2) W' hl ((hS.below hb (Nat.le_refl _)).mono hb.size))
    rw [HHB.out] at HHA
    obtain ⟨p, ⟨v1, v2, v3⟩, rq, sa, si, sc, yk⟩ := x
    have HFE := Lib.hid (show (f (.string p.data.toList)).getD zeroR = .agg (relC ⟨p, (v1, v2, v3), rq, sa, si, sc, yk⟩ (.slice xa xn xc)) by rw [h4]; rfl)
    have HFS := Lib.hid (show (f (.string p.data.toList)).isSome = true by rw [h4]; rfl)
    simp only [relC] at HFE HPL HHA HKY HMF
    clear hm h1 h4 hmb HME HVB HHB hS
    have HB1 : Hid (Below W.heap.size W ((W.alloc (.cells #[.string p, r] 58)).alloc (.cells (relC ⟨p, (v1, v2, v3), rq, sa, si, sc, yk⟩ (.slice xa xn xc)) 71))) := Lib.hid (by repeat (first | exact Below.refl _ _ | refine Below.drew ?_ | refine Below.alloc ?_ (by simp <;> omega) _ | refine Below.setCell ?_ (by simp <;> omega) _))
    have HX1 : Hid (BoxR ((W.alloc (.cells #[.string p, r] 58)).alloc (.cells (relC ⟨p, (v1, v2, v3), rq, sa, si, sc, yk⟩ (.slice xa xn xc)) 71)) (W.heap.size + 1) ⟨p, (v1, v2, v3), rq, sa, si, sc, yk⟩ (.slice xa xn xc)) := Lib.hid (by
      have := BoxR.made (W.alloc (.cells #[.string p, r] 58)) ⟨p, (v1, v2, v3), rq, sa, si, sc, yk⟩ (.slice xa xn xc)
      rw [World.size_alloc] at this
      exact this)
    simp only [relC] at HB1 HX1
    have HC1 : Hid (((W.alloc (.cells #[.string p, r] 58)).alloc (.cells #[.string p, intC v1, intC v2, intC v3, .slice xa xn xc, .string sa, .string si, .string sc, .bool yk] 71)).cell? ⟨W.heap.size, 1, none⟩ = some r) := Lib.hid (by
      rw [(belQ (W.alloc (.cells #[.string p, r] 58)) (.cells #[.string p, intC v1, intC v2, intC v3, .slice xa xn xc, .string sa, .string si, .string sc, .bool yk] 71)).cell (p := ⟨W.heap.size, 1, none⟩) (by simp)]
      exact cell_of_row _ _ 1 _ _ _ (World.alloc_heap_new W _))
    go_enter Tryz.func133, Tryz.ntmps133
    go_upto_region 2 with (at_lookup; refine wpList_look_ok_F rfl _ _ 171 rfl 9 71 lawStr Tryz.underlying171 (HZR.out _) m n f (by rfl) HMF.out _ (.string p.data.toList) rfl HKY.out ?_; rw [HFE.out, HFS.out])
    generalize hW1 : (W.alloc (.cells #[.string p, r] 58)).alloc (.cells #[.string p, intC v1, intC v2, intC v3, .slice xa xn xc, .string sa, .string si, .string sc, .bool yk] 71) = W1 at *
    clear hW1
    have HBC : Hid (Below W1.heap.size W1 W1) := Lib.hid (Below.refl _ _)
    have HSQ := Lib.hid (And.intro HC1.out HX1.out)
    have hz : W.heap.size < W1.heap.size := by have := HX1.out.lt; omega
    refine wp_region_noPanic ?_
    refine wp_region_held_drew (S := fun w' => w'.cell? ⟨W.heap.size, 1, none⟩ = some r ∧ BoxR w' (W.heap.size + 1) ⟨p, (v1, v2, v3), rq, sa, si, sc, yk⟩ (.slice xa xn xc)) (by kernel_rfl) ⟨HC1.out, HX1.out⟩ (fun hS0 => ?_)
    (refine wpAnyH_take (i := 0) (v := ?_) rfl (by kernel_rfl) (by kernel_rfl) (by kernel_rfl) (fun _ _ _ h => h) (Or.inl ⟨by rfl, ?_⟩) (by assumption) ?_; rotate_left; (· (intro w hSw; obtain ⟨c0, c1⟩ := hSw; go_simp; try with_reducible rfl)); (try simp only [List.getElem_toArray, List.getElem_cons_zero, List.getElem_cons_succ, Act.put, List.setIfInBounds_toArray, List.set_cons_zero, List.set_cons_succ]))
    (refine wpAnyH_take (i := 1) (v := ?_) rfl (by kernel_rfl) (by kernel_rfl) (by kernel_rfl) (fun _ _ _ h => h) (Or.inl ⟨by rfl, ?_⟩) (by assumption) ?_; rotate_left; (· (intro w hSw; obtain ⟨c0, c1⟩ := hSw; go_simp; try with_reducible rfl)); (try simp only [List.getElem_toArray, List.getElem_cons_zero, List.getElem_cons_succ, Act.put, List.setIfInBounds_toArray, List.set_cons_zero, List.set_cons_succ]))
    (refine wpAnyH_take (i := 2) (v := ?_) rfl (by kernel_rfl) (by kernel_rfl) (by kernel_rfl) (fun _ _ _ h => h) (Or.inl ⟨by rfl, ?_⟩) (by assumption) ?_; rotate_left; (· (intro w hSw; obtain ⟨c0, c1⟩ := hSw; go_simp; try with_reducible rfl)); (try simp only [List.getElem_toArray, List.getElem_cons_zero, List.getElem_cons_succ, Act.put, List.setIfInBounds_toArray, List.set_cons_zero, List.set_cons_succ]))
    (refine wpAnyH_take (i := 3) (v := ?_) rfl (by kernel_rfl) (by kernel_rfl) (by kernel_rfl) (fun _ _ _ h => h) (Or.inl ⟨by rfl, ?_⟩) (by assumption) ?_; rotate_left; (· (intro w hSw; obtain ⟨c0, c1⟩ := hSw; go_simp; try with_reducible rfl)); (try simp only [List.getElem_toArray, List.getElem_cons_zero, List.getElem_cons_succ, Act.put, List.setIfInBounds_toArray, List.set_cons_zero, List.set_cons_succ]))
    (refine wpAnyH_take (i := 4) (v := ?_) rfl (by kernel_rfl) (by kernel_rfl) (by kernel_rfl) (fun _ _ _ h => h) (Or.inl ⟨by rfl, ?_⟩) (by assumption) ?_; rotate_left; (· (intro w hSw; obtain ⟨c0, c1⟩ := hSw; go_simp; try with_reducible rfl)); (try simp only [List.getElem_toArray, List.getElem_cons_zero, List.getElem_cons_succ, Act.put, List.setIfInBounds_toArray, List.set_cons_zero, List.set_cons_succ]))
    refine wpAnyH_take (i := 5) (v := ?_) rfl (by kernel_rfl) (by kernel_rfl) (by kernel_rfl) (fun _ _ _ h => h) (Or.inl ⟨by rfl, ?_⟩) (by assumption) ?_; rotate_left
    · intro w hSw
      obtain ⟨c0, c1⟩ := hSw
      obtain ⟨g0, g1, g2, g3, g4, g5, g6, g7, g8⟩ := c1.cells
      simp only at g0 g1 g2 g3 g4 g5 g6 g7 g8
      go_simp
      try with_reducible rfl
    (try simp only [List.getElem_toArray, List.getElem_cons_zero, List.getElem_cons_succ, Act.put, List.setIfInBounds_toArray, List.set_cons_zero, List.set_cons_succ])
    refine wpAnyH_ready (rs := [6]) (by kernel_rfl) (by simp) (AllReadyH.cons rfl (fun K hK => ?_) AllReadyH.nil)
    go_simp
    refine (HPL.out _).mono ?_
    rintro e wq ⟨rfl, hbc⟩
    replace HBC := Lib.hid (HBC.out.drew.trans (hbc.mono HBC.out.size))
    refine hK.out _ _ (keepX hz HSQ.out HBC.out) (fun _ => ?_)
    clear hK K hS0 hbc
    (try simp only [List.getElem_toArray, List.getElem_cons_zero, List.getElem_cons_succ, Act.put, List.setIfInBounds_toArray, List.set_cons_zero, List.set_cons_succ])
    refine wpAnyH_ready (rs := [7]) (by kernel_rfl) (by simp) (AllReadyH.cons rfl (fun K hK => ?_) AllReadyH.nil)
    go_simp
    refine (HHA.out _ (HB1.out.trans (HBC.out.mono HB1.out.size))).mono ?_
    rintro e w2 ⟨rfl, hbc⟩
    replace HBC := Lib.hid (HBC.out.trans (hbc.mono HBC.out.size))
    refine hK.out _ _ (keepX hz HSQ.out HBC.out) (fun hS2 => ?_)
    clear hK K hbc
    (try simp only [List.getElem_toArray, List.getElem_cons_zero, List.getElem_cons_succ, Act.put, List.setIfInBounds_toArray, List.set_cons_zero, List.set_cons_succ])
    (refine wpAnyH_take (i := 8) (v := ?_) rfl (by kernel_rfl) (by kernel_rfl) (by kernel_rfl) (fun _ _ _ h => h) (Or.inl ⟨by rfl, ?_⟩) (by assumption) ?_; rotate_left; (· (intro w hSw; obtain ⟨c0, c1⟩ := hSw; go_simp; try with_reducible rfl)); (try simp only [List.getElem_toArray, List.getElem_cons_zero, List.getElem_cons_succ, Act.put, List.setIfInBounds_toArray, List.set_cons_zero, List.set_cons_succ]))
    (refine wpAnyH_take (i := 9) (v := ?_) rfl (by kernel_rfl) (by kernel_rfl) (by kernel_rfl) (fun _ _ _ h => h) (Or.inl ⟨by rfl, ?_⟩) (by assumption) ?_; rotate_left; (· (intro w hSw; obtain ⟨c0, c1⟩ := hSw; go_simp; try with_reducible rfl)); (try simp only [List.getElem_toArray, List.getElem_cons_zero, List.getElem_cons_succ, Act.put, List.setIfInBounds_toArray, List.set_cons_zero, List.set_cons_succ]))
    (refine wpAnyH_take (i := 10) (v := ?_) rfl (by kernel_rfl) (by kernel_rfl) (by kernel_rfl) (fun _ _ _ h => h) (Or.inl ⟨by rfl, ?_⟩) (by assumption) ?_; rotate_left; (· (intro w hSw; obtain ⟨c0, c1⟩ := hSw; go_simp; try with_reducible rfl)); (try simp only [List.getElem_toArray, List.getElem_cons_zero, List.getElem_cons_succ, Act.put, List.setIfInBounds_toArray, List.set_cons_zero, List.set_cons_succ]))
    refine wpAnyH_done (by kernel_rfl) ?_ _
    refine NoPanic.normal ?_
    go_wp2_with fail
    go_ret
    exact ⟨rfl, HB1.out.trans (HBC.out.mono HB1.out.size)⟩
  · have HME := Lib.hid (metB_none h2)
    rw [HME.out]
    have HFE := Lib.hid (show (f (.string q.1.data.toList)).getD zeroR = zeroR by rw [h1]; rfl)
    have HFS := Lib.hid (show (f (.string q.1.data.toList)).isSome = false by rw [h1]; rfl)
    unfold zeroR at HFE
    clear hm h1 h2
    go_enter Tryz.func133, Tryz.ntmps133
    go_wp2_with (at_lookup; refine wpList_look_ok_F rfl _ _ 171 rfl 9 71 lawStr Tryz.underlying171 (HZR.out _) m n f (by rfl) HMF.out _ (.string q.1.data.toList) rfl HKY.out ?_; unfold zeroR; rw [HFE.out, HFS.out])
    go_quiet (fail)
    go_wp2_with fail
    go_ret
    exact ⟨rfl, below_drewNV (by repeat (first | exact Below.refl _ _ | refine Below.drew ?_ | refine Below.alloc ?_ (by simp <;> omega) _ | refine Below.setCell ?_ (by simp <;> omega) _)) _⟩
end Go.Proofs.YtenfkejbndifdaaGreatDoor

namespace Go.Proofs.YtenfkejbndifdaaGreatDoor
set_option linter.unusedVariables false
set_option linter.unusedSimpArgs false
open Go Go.RowKit

/-- sizes of requirements. -/
def ReqsBd (l : List ReqL) : Prop := ∀ q ∈ l, q.1.size ≤ 1000000 ∧ q.2.length ≤ 1000000
def upAll (l : List ReqL) : Bool := l.all fun q => upB (canon q.2)
theorem upAll_iff {l : List ReqL} : upAll l = true ↔ ∀ q ∈ l, upB (canon q.2) = true := List.all_eq_true
theorem any_up (l : List ReqL) : (l.any fun q => !upB (canon q.2)) = !upAll l := by
  unfold upAll
  rw [List.all_eq_not_any_not, Bool.not_not]
set_option maxRecDepth 100000 in
theorem mupward1_any (q : ReqL) (r : Value) (W : World) (hl : q.2.length ≤ 1000000000) (hS : SpansOf W.heap.size r q.2 W) :
    Calls Tryz.prog 118 #[.agg #[.string q.1, r]] W fun e w' => e = .returned (.bool (!upB (canon q.2))) ∧ Below W.heap.size W w' := by
  have HU := Lib.hid (fun W' (hb : Below W.heap.size W W') => Upward_any r q.2 W' hl ((hS.below hb (Nat.le_refl _)).mono hb.size))
  obtain ⟨a, c, rfl, _⟩ := hS
  have HB1 : Hid (Below W.heap.size W (W.alloc (.cells #[.string q.1, .slice a q.2.length c] 58))) := Lib.hid (belQ _ _)
  go_enter Tryz.func118, Tryz.ntmps118
  go_wp2_with fail
  refine (HU.out _ HB1.out).mono ?_
  rintro e w1 ⟨rfl, hb1⟩
  have HB2 := Lib.hid (HB1.out.trans (hb1.mono HB1.out.size))
  clear hb1
  go_wp2_with fail
  go_ret
  exact ⟨rfl, HB2.out⟩
set_option maxRecDepth 100000 in
theorem mupward_any (v : Value) (l : List ReqL) (w : World) (hl : l.length ≤ 1000000000) (hq : ReqsBd l) (hR : ReqsOf w.heap.size v l w) :
    Calls Tryz.prog 73 #[v] w fun e w' => e = .returned (.bool (upAll l)) ∧ Below w.heap.size w w' := by
  have HP : Hid (PredQ 118 #[] l (fun q => !upB (canon q.2)) w) := Lib.hid (fun W x r hx hb hS => (mupward1_any x r W (by have := (hq x hx).2; omega) hS).mono fun e w' h => ⟨h.1, hb.trans (h.2.mono hb.size)⟩)
  have HC := Lib.hid (has_req 118 _ (enters_of Tryz.func118 (by kernel_rfl) rfl) _ v l w hl hR HP.out)
  rw [any_up] at HC
  obtain ⟨b, hb⟩ : ∃ b, upAll l = b := ⟨_, rfl⟩
  rw [hb] at HC ⊢
  clear hb hq hR
  go_enter Tryz.func73, Tryz.ntmps73
  go_wp2_with fail
  refine HC.out.mono ?_
  rintro e w1 ⟨rfl, hb1⟩
  have HB1 := Lib.hid hb1
  clear hb1 HC HP
  go_wp2_with fail
  go_ret
  exact ⟨rfl, HB1.out⟩
set_option maxRecDepth 100000 in
theorem mplain1_any (x : RelL) (r : Value) (W : World) (hb : RelBd x) (hR : ReqsOf W.heap.size r x.reqs W) :
    Calls Tryz.prog 75 #[.agg (relC x r)] W fun e w' => e = .returned (.bool (!upAll x.reqs)) ∧ Below W.heap.size W w' := by
  have HU := Lib.hid (fun W' (hb' : Below W.heap.size W W') => mupward_any r x.reqs W' (by have := hb.len; omega) hb.reqs ((hR.below hb' (Nat.le_refl _)).mono hb'.size))
  obtain ⟨a, c, rfl, _⟩ := hR
  have HB1 : Hid (Below W.heap.size W (W.alloc (.cells (relC x (.slice a x.reqs.length c)) 71))) := Lib.hid (belQ _ _)
  simp only [relC] at HB1 ⊢
  clear hb
  go_enter Tryz.func75, Tryz.ntmps75
  go_wp2_with fail
  refine (HU.out _ HB1.out).mono ?_
  rintro e w1 ⟨rfl, hb1⟩
  have HB2 := Lib.hid (HB1.out.trans (hb1.mono HB1.out.size))
  clear hb1
  go_wp2_with fail
  go_ret
  exact ⟨rfl, HB2.out⟩
theorem mplain1_pred (X : List RelL) (w : World) (hq : ∀ x ∈ X, RelBd x) : PredR 75 #[] X (fun x => !upAll x.reqs) w := by
  intro W2 x r hx hb2 hS
  have h := mplain1_any x r W2 (hq x hx) hS
  refine h.mono ?_
  rintro e w' ⟨h1, h2⟩
  exact ⟨h1, hb2.trans (h2.mono hb2.size)⟩
/-- what Plain returns. -/
def PlainR (w : World) (X : List RelL) (roots : List ReqL) (e : Ending) (w' : World) : Prop := Below w.heap.size w w' ∧ ∃ b : Bool, e = .returned (.bool b) ∧ (b = true ↔ PlainP X roots)
theorem PlainR.mk {w w' : World} {X : List RelL} {roots : List ReqL} {b : Bool} (hb : Below w.heap.size w w') (h : b = true ↔ PlainP X roots) : PlainR w X roots (.returned (.bool b)) w' := ⟨hb, b, rfl, h⟩
theorem PlainR.no {w w' : World} {X : List RelL} {roots : List ReqL} (hb : Below w.heap.size w w') (h : ¬ PlainP X roots) : PlainR w X roots (.returned (.bool false)) w' := ⟨hb, false, rfl, (fun h => by cases h), fun h2 => absurd h2 h⟩
theorem own_up {X : List RelL} : (X.any fun x => !upAll x.reqs) = false ↔ ∀ i, i < X.length → ∀ q ∈ (X.getD i default).reqs, upB (canon q.2) = true := by
  rw [List.any_eq_false]
  constructor
  · intro h i hi q hq
    have h1 := h _ (List.getElem_mem hi)
    rw [List.getD_eq_getElem?_getD, List.getElem?_eq_getElem hi] at hq
    simp only [Bool.not_eq_true', Bool.not_eq_false] at h1
    exact upAll_iff.1 h1 q hq
  · intro h x hx
    obtain ⟨i, hi, rfl⟩ := List.mem_iff_getElem.1 hx
    have h1 := h i hi
    rw [List.getD_eq_getElem?_getD, List.getElem?_eq_getElem hi] at h1
    simp only [Bool.not_eq_true', Bool.not_eq_false]
    exact upAll_iff.2 h1
set_option maxRecDepth 100000 in
set_option maxHeartbeats 4000000 in
theorem MPlain_any (v iv rov : Value) (X : List RelL) (roots : List ReqL) (w : World) (hm : MaxOk w) (hX : X.length ≤ 1000000) (hq : ∀ x ∈ X, RelBd x) (hR : RelsOf w.heap.size v X w)
    (hro : roots.length ≤ 1000000) (hrq : ReqsBd roots) (hRo : ReqsOf w.heap.size rov roots w) :
    Calls Tryz.prog 22 #[.agg #[v, iv], rov] w (PlainR w X roots) := by
  have HC := Lib.hid (fun W (hb : Below w.heap.size w W) => IdxCheck_any v iv X W (hm.below hb hm.pos) hX hq ((hR.below hb (Nat.le_refl _)).mono hb.size))
  have HQ := Lib.hid (fun W (hb : Below w.heap.size w W) => CheckReqs_any rov roots W (hm.below hb hm.pos) (by omega) (fun q hq2 => ⟨(hrq q hq2).1, by have := (hrq q hq2).2; omega⟩) ((hRo.below hb (Nat.le_refl _)).mono hb.size))
  have HU := Lib.hid (fun W (hb : Below w.heap.size w W) => mupward_any rov roots W (by omega) hrq ((hRo.below hb (Nat.le_refl _)).mono hb.size))
  have HA := Lib.hid (fun W (hb : Below w.heap.size w W) => has_rel 75 #[] (enters_of Tryz.func75 (by kernel_rfl) rfl) (fun x => !upAll x.reqs) v X W (by omega) ((hR.below hb (Nat.le_refl _)).mono hb.size) (mplain1_pred X W hq))
  obtain ⟨va, vn, vc, rfl⟩ : ∃ a n c, v = .slice a n c := by obtain ⟨a, c, _, e, _⟩ := hR.rv; exact ⟨_, _, _, e⟩
  obtain ⟨ra, rc, rfl⟩ : ∃ ra rc, rov = .slice ra roots.length rc := by obtain ⟨a, c, e, _⟩ := hRo; exact ⟨a, c, e⟩
  clear hm hR hRo hrq hq
  obtain ⟨e1, he1⟩ : ∃ e1, checkX X = e1 := ⟨_, rfl⟩
  obtain ⟨e2, he2⟩ : ∃ e2, checkReqs roots = e2 := ⟨_, rfl⟩
  obtain ⟨b3, hb3⟩ : ∃ b3, upAll roots = b3 := ⟨_, rfl⟩
  obtain ⟨b4, hb4⟩ : ∃ b4, (X.any fun x => !upAll x.reqs) = b4 := ⟨_, rfl⟩
  rw [he1] at HC
  rw [he2] at HQ
  rw [hb3] at HU
  rw [hb4] at HA
  have HE1 := Lib.hid he1
  have HE2 := Lib.hid he2
  have HE3 := Lib.hid hb3
  have HE4 := Lib.hid hb4
  clear he1 he2 hb3 hb4
  have HB0 : Hid (Below w.heap.size w (w.alloc (.cells #[.slice va vn vc, iv] 25))) := Lib.hid (belQ _ _)
  have HI0 : Hid ((w.alloc (.cells #[.slice va vn vc, iv] 25)).heap[w.heap.size]? = some (.cells #[.slice va vn vc, iv] 25 (0, 0))) := Lib.hid (World.alloc_heap_new w _)
  have hw0 : w.heap.size < (w.alloc (.cells #[.slice va vn vc, iv] 25)).heap.size := by simp
  go_enter Tryz.func22, Tryz.ntmps22
  go_upto_region 1 with fail
  generalize w.alloc (.cells #[.slice va vn vc, iv] 25) = W at *
  have HT := Lib.hid (fun W' (h : Below W.heap.size W W') => HB0.out.trans (h.mono HB0.out.size))
  have HI := Lib.hid (fun W' (h : Below W.heap.size W W') => (h.block w.heap.size hw0).trans HI0.out)
  have c0 : W.cell? ⟨w.heap.size, 0, none⟩ = some (.slice va vn vc) := cell_of_row _ _ 0 _ _ _ HI0.out
  have c1 : W.cell? ⟨w.heap.size, 1, none⟩ = some iv := cell_of_row _ _ 1 _ _ _ HI0.out
  go_wp2_with fail
  refine (HC.out _ HB0.out).mono ?_
  rintro e w1 ⟨rfl, hb1⟩
  have HB1 := Lib.hid hb1
  clear hb1 c0 c1
  by_cases h1 : e1 = 0
  case neg =>
    have h1b : (e1 != 0) = true := by simpa using h1
    go_wp2_with fail
    go_ret
    exact PlainR.no (HT.out _ HB1.out) (fun h => h1 (HE1.out.symm.trans h.idx))
  subst h1
  go_wp2_with fail
  refine (HQ.out _ (HT.out _ HB1.out)).mono ?_
  rintro e w2 ⟨rfl, hb2⟩
  have HB2 := Lib.hid (HB1.out.trans (hb2.mono HB1.out.size))
  clear hb2
  by_cases h2 : e2 = 0
  case neg =>
    have h2b : (e2 != 0) = true := by simpa using h2
    go_wp2_with fail
    go_ret
    exact PlainR.no (HT.out _ HB2.out) (fun h => h2 (HE2.out.symm.trans h.roots.1))
  subst h2
  go_wp2_with fail
  refine (HU.out _ (HT.out _ HB2.out)).mono ?_
  rintro e w3 ⟨rfl, hb3⟩
  have HB3 := Lib.hid (HB2.out.trans (hb3.mono HB2.out.size))
  clear hb3
  cases b3 with
  | false =>
    go_wp2_with fail
    go_ret
    exact PlainR.no (HT.out _ HB3.out) (fun h => by have := upAll_iff.2 h.roots.2; rw [HE3.out] at this; cases this)
  | true =>
    have c0 : w3.cell? ⟨w.heap.size, 0, none⟩ = some (.slice va vn vc) := cell_of_row _ _ 0 _ _ _ (HI.out _ HB3.out)
    go_wp2_with fail
    refine (HA.out _ (HT.out _ HB3.out)).mono ?_
    rintro e w4 ⟨rfl, hb4⟩
    have HB4 := Lib.hid (HB3.out.trans (hb4.mono HB3.out.size))
    clear hb4
    go_wp2_with fail
    go_ret
    refine PlainR.mk (HT.out _ HB4.out) ?_
    have HE5 := HE4.out
    cases b4 with
    | false => exact ⟨fun _ => ⟨HE1.out, ⟨HE2.out, upAll_iff.1 HE3.out⟩, own_up.1 HE5⟩, fun _ => rfl⟩
    | true => exact ⟨(fun h => by cases h), fun h => by have := own_up.2 h.own; rw [HE5] at this; cases this⟩
set_option maxRecDepth 100000 in
theorem mplace_any (x : RelL) (r : Value) (w : World) (hr : ∃ a n c, r = .slice a n c) (hv : validB x.ver.1 x.ver.2.1 x.ver.2.2 = true) :
    Calls Tryz.prog 84 #[.agg (relC x r)] w fun e w' => e = .returned (.int .i64 (plc x.ver)) ∧ Below w.heap.size w w' := by
  obtain ⟨a, n, c, rfl⟩ := hr
  have HP := Lib.hid (fun W => Place_any x.ver.1 x.ver.2.1 x.ver.2.2 W)
  rw [show placeV x.ver.1 x.ver.2.1 x.ver.2.2 = (plc x.ver, 0) by unfold placeV plc; rw [if_pos hv]] at HP
  have HB1 : Hid (Below w.heap.size w (w.alloc (.cells (relC x (.slice a n c)) 71))) := Lib.hid (belQ _ _)
  obtain ⟨p, hp⟩ : ∃ p, plc x.ver = p := ⟨_, rfl⟩
  rw [hp] at HP ⊢
  simp only [relC] at HB1 ⊢
  clear hv hp
  go_enter Tryz.func84, Tryz.ntmps84
  go_wp2_with fail
  refine (HP.out _).mono ?_
  rintro e w1 ⟨rfl, hb1⟩
  have HB2 := Lib.hid (HB1.out.trans (hb1.mono HB1.out.size))
  clear hb1
  go_wp2_with fail
  go_ret
  exact ⟨rfl, HB2.out⟩
set_option maxRecDepth 100000 in
theorem mselected_any (x : RelL) (r : Value) (w : World) : Calls Tryz.prog 58 #[.agg (relC x r)] w fun e w' => e = .returned (.agg #[.string x.path, intC x.ver.1, intC x.ver.2.1, intC x.ver.2.2]) ∧ Below w.heap.size w w' := by
  unfold relC
  go_enter Tryz.func58, Tryz.ntmps58
  go_wp2_with fail
  refine bodyPost_ret (results_cell_row rfl _ _ (w.heap.size + 1) _ _ _ _ rfl (by have := World.alloc_heap_new (w.alloc (.cells #[.string x.path, intC x.ver.1, intC x.ver.2.1, intC x.ver.2.2, r, .string x.ar, .string x.ifc, .string x.cert, .bool x.yk] 71)) (.cells #[.string x.path, intC x.ver.1, intC x.ver.2.1, intC x.ver.2.2] 43); rw [World.size_alloc] at this; exact this) Tryz.underlying43 rfl (by kernel_rfl)) rfl ?_
  exact ⟨rfl, (by repeat (first | exact Below.refl _ _ | refine Below.drew ?_ | refine Below.alloc ?_ (by simp <;> omega) _ | refine Below.setCell ?_ (by simp <;> omega) _))⟩
end Go.Proofs.YtenfkejbndifdaaGreatDoor

namespace Go.Proofs.YtenfkejbndifdaaGreatDoor
set_option linter.unusedVariables false
set_option linter.unusedSimpArgs false
open Go Go.RowKit Go.Maps

theorem SelF.start (G : RelL → Value → Prop) : SelF G [] (fun _ => none) := fun _ => .inr ⟨rfl, fun _ h => by cases h⟩
theorem SelF.put {G : RelL → Value → Prop} {s : List SelL} {f : Lit → Option Value} {k : Nat} (h : SelF G (s.take k) f) (hk : k < s.length) {x : RelL} {r : Value} (hx : keyL x = s.getD k default) (hg : G x r) :
    SelF G (s.take (k + 1)) (putF f (.string x.path.data.toList) (.agg (relC x r))) := by
  have hs : s.take (k + 1) = s.take k ++ [keyL x] := by
    rw [hx, List.take_succ_eq_append_getElem hk, List.getD_eq_getElem?_getD, List.getElem?_eq_getElem hk]; rfl
  intro p
  rw [hs]
  by_cases e : x.path = p
  · refine .inl ⟨x, r, by simp, e, hg, ?_⟩
    subst e
    simp [putF]
  · have hne : ¬ (Lit.string p.data.toList = Lit.string x.path.data.toList) := fun h => by
      injection h with h
      exact e (ByteArray.ext (Array.toList_inj.1 h.symm))
    rcases h p with ⟨x2, r2, h1, h2, h3, h4⟩ | ⟨h1, h2⟩
    · refine .inl ⟨x2, r2, by simp [h1], h2, h3, ?_⟩
      unfold putF
      rw [if_neg hne, h4]
    · refine .inr ⟨?_, fun y hy => ?_⟩
      · unfold putF
        rw [if_neg hne, h1]
      · rcases List.mem_append.1 hy with hy | hy
        · exact h2 y hy
        · rw [List.mem_singleton.1 hy]; exact e
/-- versions of a checked index. -/
theorem valid_of_check {X : List RelL} (h : checkX X = 0) {x : RelL} (hx : x ∈ X) : validB x.ver.1 x.ver.2.1 x.ver.2.2 = true := by
  obtain ⟨k, hk, rfl⟩ := List.mem_iff_getElem.1 hx
  unfold checkX at h
  split at h
  · exact absurd h (by decide)
  · have h1 := firstE_zero h k hk
    unfold idxErr at h1
    have h2 : relE (X.getD k default) = 0 := by
      by_cases e : relE (X.getD k default) = 0
      · exact e
      · rw [if_pos e] at h1; exact absurd h1 e
    rw [List.getD_eq_getElem?_getD, List.getElem?_eq_getElem hk] at h2
    simp only [Option.getD_some] at h2
    unfold relE at h2
    split at h2
    · exact absurd h2 (by decide)
    · split at h2
      · exact absurd h2 (by decide)
      · rename_i h3
        have h3 : ¬ (validB X[k].ver.1 X[k].ver.2.1 X[k].ver.2.2 && _) = false := h3
        rw [Bool.not_eq_false, Bool.and_eq_true] at h3
        exact h3.1
/-- the predicate of Solves at requirements. -/
theorem broken_pred (G : RelL → Value → Prop) (hG : ∀ x r, G x r → ∃ a n c, r = .slice a n c) (s : List SelL) (f : Lit → Option Value) (hn : (s.map (·.1)).Nodup) (hv : ∀ y ∈ s, validB y.2.1 y.2.2.1 y.2.2.2 = true) (hF : SelF G s f) (es : List ReqL) (m n c : Nat) (w : World)
    (hq : ∀ q ∈ es, q.1.size ≤ 1000000 ∧ q.2.length ≤ 1000000) (hm : MapF Tryz.prog 9 w m n f) (hc : w.cell? ⟨c, 0, none⟩ = some (.map (some m))) :
    PredQ 133 #[.pointer (some ⟨c, 0, none⟩)] es (fun q => !metB s q) w := by
  intro W x r hx hb hS
  have hlt := World.block_lt_of_cell? _ _ hc
  simp only at hlt
  refine (broken_any G hG s f hn hv hF x r m n c W (hq x hx).1 (by have := (hq x hx).2; omega) hS (hm.below hb) ((hb.cell (p := ⟨c, 0, none⟩) hlt).trans hc)).mono ?_
  rintro e w' ⟨rfl, h⟩
  exact ⟨rfl, hb.trans (h.mono hb.size)⟩
theorem all_met {s : List SelL} {es : List ReqL} (h : es.any (fun q => !metB s q) = false) : ∀ q ∈ es, metB s q = true := fun q hq => by
  rw [List.any_eq_false] at h
  have := h q hq
  simpa using this
end Go.Proofs.YtenfkejbndifdaaGreatDoor
