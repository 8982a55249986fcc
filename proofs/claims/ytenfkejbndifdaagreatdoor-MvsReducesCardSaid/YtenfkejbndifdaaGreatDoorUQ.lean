/- The index's place and the closure of Solves that sees a broken requirement. Contracts of mvs: upward, Plain, place, selected. Solves: the map of the selected releases, filled one after another; what Solves returns. The selected releases, in memory. Solves: the queue of requirements and the paths that have been seen, in memory. -/
import Derived.Test.YtenfkejbndifdaaGreatDoorUP
import Derived.Test.YtenfkejbndifdaaGreatDoorUL
import Derived.Test.YtenfkejbndifdaaGreatDoorUI
import Derived.Test.YtenfkejbndifdaaGreatDoorUM
import Derived.Test.YtenfkejbndifdaaGreatDoorUG
import Derived.Test.YtenfkejbndifdaaGreatDoorUF
import Derived.Test.YtenfkejbndifdaaGreatDoorUN
namespace Go.Proofs.YtenfkejbndifdaaGreatDoor
set_option linter.unusedVariables false
set_option linter.unusedSimpArgs false
open Go Go.RowKit Go.Maps

set_option maxRecDepth 100000 in
theorem iplace_any (x : RelL) (r : Value) (w : World) : Calls Tryz.prog 135 #[.agg (relC x r)] w fun e w' => e = .returned (.int .i64 (placeV x.ver.1 x.ver.2.1 x.ver.2.2).1) ∧ Below w.heap.size w w' := by
  obtain ⟨p, ⟨v1, v2, v3⟩, rq, sa, si, sc, yk⟩ := x
  unfold relC
  simp only
  obtain ⟨⟨pl, pe⟩, hpl⟩ : ∃ z, placeV v1 v2 v3 = z := ⟨_, rfl⟩
  have HP := Lib.hid (fun W => Place_any v1 v2 v3 W)
  rw [hpl] at HP ⊢
  clear hpl
  go_enter Tryz.func135, Tryz.ntmps135
  go_wp2_with (go_at_call 40; refine (HP.out _).mono ?_; rintro e w' ⟨rfl, hb⟩)
  go_ret
  exact ⟨rfl, (belQ w _).trans (hb.mono (by simp))⟩
def SelF (G : RelL → Value → Prop) (s : List SelL) (f : Lit → Option Value) : Prop :=
  ∀ p : ByteArray, (∃ x r, keyL x ∈ s ∧ x.path = p ∧ G x r ∧ f (.string p.data.toList) = some (.agg (relC x r))) ∨ (f (.string p.data.toList) = none ∧ ∀ y ∈ s, y.1 ≠ p)
theorem metB_none {s : List SelL} {q : ReqL} (h : ∀ y ∈ s, y.1 ≠ q.1) : metB s q = false := by
  unfold metB
  rw [List.any_eq_false]
  intro y hy e
  rw [Bool.and_eq_true] at e
  exact h y hy (of_decide_eq_true e.1)
theorem nodup_one {s : List SelL} (hn : (s.map (·.1)).Nodup) {a b : SelL} (ha : a ∈ s) (hb : b ∈ s) (e : a.1 = b.1) : a = b := by
  induction s with
  | nil => cases ha
  | cons y s ih =>
    rw [List.map_cons, List.nodup_cons] at hn
    rcases List.mem_cons.1 ha with h1 | h1 <;> rcases List.mem_cons.1 hb with h2 | h2
    · rw [h1, h2]
    · subst h1; exact absurd (List.mem_map.2 ⟨b, h2, e.symm⟩) hn.1
    · subst h2; exact absurd (List.mem_map.2 ⟨a, h1, e⟩) hn.1
    · exact ih hn.2 h1 h2
theorem metB_one {s : List SelL} {q : ReqL} {y : SelL} (hn : (s.map (·.1)).Nodup) (hy : y ∈ s) (e : y.1 = q.1) : metB s q = hasB q.2 (1000 * y.2.2.1 + y.2.2.2) := by
  unfold metB
  cases hb : hasB q.2 (1000 * y.2.2.1 + y.2.2.2) with
  | true =>
    rw [List.any_eq_true]
    exact ⟨y, hy, by rw [hb, Bool.and_true]; exact decide_eq_true e⟩
  | false =>
    rw [List.any_eq_false]
    intro z hz h
    rw [Bool.and_eq_true] at h
    have hzy : z.1 = y.1 := (of_decide_eq_true h.1).trans e.symm
    have : z = y := nodup_one hn hz hy hzy
    subst this
    rw [hb] at h
    cases h.2
theorem keepX {W w' : World} {g : Nat} {x : RelL} {r rx : Value} (hg : g < W.heap.size) (h : W.cell? ⟨g, 1, none⟩ = some r ∧ BoxR W (g + 1) x rx) (hb : Below W.heap.size W w') : w'.cell? ⟨g, 1, none⟩ = some r ∧ BoxR w' (g + 1) x rx :=
  ⟨(hb.cell (p := ⟨g, 1, none⟩) hg).trans h.1, h.2.on hb⟩
set_option maxRecDepth 100000 in
set_option maxHeartbeats 4000000 in
theorem broken_any (G : RelL → Value → Prop) (hG : ∀ x r, G x r → ∃ a n c, r = .slice a n c) (s : List SelL) (f : Lit → Option Value) (hn : (s.map (·.1)).Nodup) (hv : ∀ y ∈ s, validB y.2.1 y.2.2.1 y.2.2.2 = true) (hF : SelF G s f) (q : ReqL) (r : Value) (m n c : Nat) (W : World)
    (hq : q.1.size ≤ 1000000) (hl : q.2.length ≤ 1000000000) (hS : SpansOf W.heap.size r q.2 W) (hm : MapF Tryz.prog 9 W m n f) (hc : W.cell? ⟨c, 0, none⟩ = some (.map (some m))) :
    Calls Tryz.prog 133 #[.agg #[.string q.1, r], .pointer (some ⟨c, 0, none⟩)] W fun e w' => e = .returned (.bool (!metB s q)) ∧ Below W.heap.size W w' := by
  have hlt := World.block_lt_of_cell? _ _ hc
  simp only at hlt
  have HKY := Lib.hid (keyStr (p := q.1) (by unfold maxLen; omega))
  have HMF := Lib.hid (hm.alloc (.cells #[.string q.1, r] 58))
  have HZR := Lib.hid (show ∀ W, (zeroValue 71).run Tryz.prog W = .ok zeroR W from Tryz.zeroValue71)
  rcases hF q.1 with ⟨x, rx, h1, h2, h3, h4⟩ | ⟨h1, h2⟩
  · obtain ⟨xa, xn, xc, rfl⟩ := hG _ _ h3
    clear h3
    obtain ⟨pq, sq⟩ := q
    simp only at hq hl hS HKY HMF h2 h4
    subst h2
    have HME := Lib.hid (metB_one (q := (x.path, sq)) hn h1 rfl)
    have HVB := Lib.hid (show placeV x.ver.1 x.ver.2.1 x.ver.2.2 = (1000 * x.ver.2.1 + x.ver.2.2, 0) by unfold placeV; rw [if_pos (show validB x.ver.1 x.ver.2.1 x.ver.2.2 = true from hv _ h1)])
    obtain ⟨mb, hmb⟩ : ∃ mb, metB s (x.path, sq) = mb := ⟨_, rfl⟩
    rw [hmb]
    have HHB := Lib.hid (show hasB sq (1000 * x.ver.2.1 + x.ver.2.2) = mb from HME.out.symm.trans hmb)
    have HPL := Lib.hid (fun W => iplace_any x (.slice xa xn xc) W)
    rw [HVB.out] at HPL
    have HHA := Lib.hid (fun W' (hb : Below W.heap.size W W') => Has_any r sq (1000 * x.ver.2.1 + x.ver.2.2) W' hl ((hS.below hb (Nat.le_refl _)).mono hb.size))
    rw [HHB.out] at HHA
    obtain ⟨p, ⟨v1, v2, v3⟩, rq, sa, si, sc, yk⟩ := x
    have HFE := Lib.hid (show (f (.string p.data.toList)).getD zeroR = .agg (relC ⟨p, (v1, v2, v3), rq, sa, si, sc, yk⟩ (.slice xa xn xc)) by rw [h4]; rfl)
    have HFS := Lib.hid (show (f (.string p.data.toList)).isSome = true by rw [h4]; rfl)
    simp only [relC] at HFE HPL HHA HKY HMF
    clear hm h1 h4 hmb HME HVB HHB hS
    have HB1 : Hid (Below W.heap.size W ((W.alloc (.cells #[.string p, r] 58)).alloc (.cells (relC ⟨p, (v1, v2, v3), rq, sa, si, sc, yk⟩ (.slice xa xn xc)) 71))) := Lib.hid (by repeat (first | exact Below.refl _ _ | refine Below.drew ?_ | refine Below.alloc ?_ (by simp <;> omega) _ | refine Below.setCell ?_ (by simp <;> omega) _))
    have HX1 : Hid (BoxR ((W.alloc (.cells #[.string p, r] 58)).alloc (.cells (relC ⟨p, (v1, v2, v3), rq, sa, si, sc, yk⟩ (.slice xa xn xc)) 71)) (W.heap.size + 1) ⟨p, (v1, v2, v3), rq, sa, si, sc, yk⟩ (.slice xa xn xc)) := Lib.hid (by
      have := BoxR.made (W.alloc (.cells #[.string p, r] 58)) ⟨p, (v1, v2, v3), rq, sa, si, sc, yk⟩ (.slice xa xn xc)
      rw [World.size_alloc] at this
      exact this)
    simp only [relC] at HB1 HX1
    have HC1 : Hid (((W.alloc (.cells #[.string p, r] 58)).alloc (.cells #[.string p, intC v1, intC v2, intC v3, .slice xa xn xc, .string sa, .string si, .string sc, .bool yk] 71)).cell? ⟨W.heap.size, 1, none⟩ = some r) := Lib.hid (by
      rw [(belQ (W.alloc (.cells #[.string p, r] 58)) (.cells #[.string p, intC v1, intC v2, intC v3, .slice xa xn xc, .string sa, .string si, .string sc, .bool yk] 71)).cell (p := ⟨W.heap.size, 1, none⟩) (by simp)]
      exact cell_of_row _ _ 1 _ _ _ (World.alloc_heap_new W _))
    go_enter Tryz.func133, Tryz.ntmps133
    go_upto_region 2 with (at_lookup; refine wpList_look_ok_F rfl _ _ 171 rfl 9 71 lawStr Tryz.underlying171 (HZR.out _) m n f (by rfl) HMF.out _ (.string p.data.toList) rfl HKY.out ?_; rw [HFE.out, HFS.out])
    generalize hW1 : (W.alloc (.cells #[.string p, r] 58)).alloc (.cells #[.string p, intC v1, intC v2, intC v3, .slice xa xn xc, .string sa, .string si, .string sc, .bool yk] 71) = W1 at *
    clear hW1
    have HBC : Hid (Below W1.heap.size W1 W1) := Lib.hid (Below.refl _ _)
    have HSQ := Lib.hid (And.intro HC1.out HX1.out)
    have hz : W.heap.size < W1.heap.size := by have := HX1.out.lt; omega
    refine wp_region_noPanic ?_
    refine wp_region_held_drew (S := fun w' => w'.cell? ⟨W.heap.size, 1, none⟩ = some r ∧ BoxR w' (W.heap.size + 1) ⟨p, (v1, v2, v3), rq, sa, si, sc, yk⟩ (.slice xa xn xc)) (by kernel_rfl) ⟨HC1.out, HX1.out⟩ (fun hS0 => ?_)
    (refine wpAnyH_take (i := 0) (v := ?_) rfl (by kernel_rfl) (by kernel_rfl) (by kernel_rfl) (fun _ _ _ h => h) (Or.inl ⟨by rfl, ?_⟩) (by assumption) ?_; rotate_left; (· (intro w hSw; obtain ⟨c0, c1⟩ := hSw; go_simp; try with_reducible rfl)); (try simp only [zl1, zl2, zl3, Act.put, zl4, zl5, zl6]))
    (refine wpAnyH_take (i := 1) (v := ?_) rfl (by kernel_rfl) (by kernel_rfl) (by kernel_rfl) (fun _ _ _ h => h) (Or.inl ⟨by rfl, ?_⟩) (by assumption) ?_; rotate_left; (· (intro w hSw; obtain ⟨c0, c1⟩ := hSw; go_simp; try with_reducible rfl)); (try simp only [zl1, zl2, zl3, Act.put, zl4, zl5, zl6]))
    (refine wpAnyH_take (i := 2) (v := ?_) rfl (by kernel_rfl) (by kernel_rfl) (by kernel_rfl) (fun _ _ _ h => h) (Or.inl ⟨by rfl, ?_⟩) (by assumption) ?_; rotate_left; (· (intro w hSw; obtain ⟨c0, c1⟩ := hSw; go_simp; try with_reducible rfl)); (try simp only [zl1, zl2, zl3, Act.put, zl4, zl5, zl6]))
    (refine wpAnyH_take (i := 3) (v := ?_) rfl (by kernel_rfl) (by kernel_rfl) (by kernel_rfl) (fun _ _ _ h => h) (Or.inl ⟨by rfl, ?_⟩) (by assumption) ?_; rotate_left; (· (intro w hSw; obtain ⟨c0, c1⟩ := hSw; go_simp; try with_reducible rfl)); (try simp only [zl1, zl2, zl3, Act.put, zl4, zl5, zl6]))
    (refine wpAnyH_take (i := 4) (v := ?_) rfl (by kernel_rfl) (by kernel_rfl) (by kernel_rfl) (fun _ _ _ h => h) (Or.inl ⟨by rfl, ?_⟩) (by assumption) ?_; rotate_left; (· (intro w hSw; obtain ⟨c0, c1⟩ := hSw; go_simp; try with_reducible rfl)); (try simp only [zl1, zl2, zl3, Act.put, zl4, zl5, zl6]))
    refine wpAnyH_take (i := 5) (v := ?_) rfl (by kernel_rfl) (by kernel_rfl) (by kernel_rfl) (fun _ _ _ h => h) (Or.inl ⟨by rfl, ?_⟩) (by assumption) ?_; rotate_left
    · intro w hSw
      obtain ⟨c0, c1⟩ := hSw
      obtain ⟨g0, g1, g2, g3, g4, g5, g6, g7, g8⟩ := c1.cells
      simp only at g0 g1 g2 g3 g4 g5 g6 g7 g8
      go_simp
      try with_reducible rfl
    (try simp only [zl1, zl2, zl3, Act.put, zl4, zl5, zl6])
    refine wpAnyH_ready (rs := [6]) (by kernel_rfl) (by simp) (AllReadyH.cons rfl (fun K hK => ?_) AllReadyH.nil)
    go_simp
    refine (HPL.out _).mono ?_
    rintro e wq ⟨rfl, hbc⟩
    replace HBC := Lib.hid (HBC.out.drew.trans (hbc.mono HBC.out.size))
    refine hK.out _ _ (keepX hz HSQ.out HBC.out) (fun _ => ?_)
    clear hK K hS0 hbc
    (try simp only [zl1, zl2, zl3, Act.put, zl4, zl5, zl6])
    refine wpAnyH_ready (rs := [7]) (by kernel_rfl) (by simp) (AllReadyH.cons rfl (fun K hK => ?_) AllReadyH.nil)
    go_simp
    refine (HHA.out _ (HB1.out.trans (HBC.out.mono HB1.out.size))).mono ?_
    rintro e w2 ⟨rfl, hbc⟩
    replace HBC := Lib.hid (HBC.out.trans (hbc.mono HBC.out.size))
    refine hK.out _ _ (keepX hz HSQ.out HBC.out) (fun hS2 => ?_)
    clear hK K hbc
    (try simp only [zl1, zl2, zl3, Act.put, zl4, zl5, zl6])
    (refine wpAnyH_take (i := 8) (v := ?_) rfl (by kernel_rfl) (by kernel_rfl) (by kernel_rfl) (fun _ _ _ h => h) (Or.inl ⟨by rfl, ?_⟩) (by assumption) ?_; rotate_left; (· (intro w hSw; obtain ⟨c0, c1⟩ := hSw; go_simp; try with_reducible rfl)); (try simp only [zl1, zl2, zl3, Act.put, zl4, zl5, zl6]))
    (refine wpAnyH_take (i := 9) (v := ?_) rfl (by kernel_rfl) (by kernel_rfl) (by kernel_rfl) (fun _ _ _ h => h) (Or.inl ⟨by rfl, ?_⟩) (by assumption) ?_; rotate_left; (· (intro w hSw; obtain ⟨c0, c1⟩ := hSw; go_simp; try with_reducible rfl)); (try simp only [zl1, zl2, zl3, Act.put, zl4, zl5, zl6]))
    (refine wpAnyH_take (i := 10) (v := ?_) rfl (by kernel_rfl) (by kernel_rfl) (by kernel_rfl) (fun _ _ _ h => h) (Or.inl ⟨by rfl, ?_⟩) (by assumption) ?_; rotate_left; (· (intro w hSw; obtain ⟨c0, c1⟩ := hSw; go_simp; try with_reducible rfl)); (try simp only [zl1, zl2, zl3, Act.put, zl4, zl5, zl6]))
    refine wpAnyH_done (by kernel_rfl) ?_ _
    refine NoPanic.normal ?_
    go_wp2_with fail
    go_ret
    exact ⟨rfl, HB1.out.trans (HBC.out.mono HB1.out.size)⟩
  · have HME := Lib.hid (metB_none h2)
    rw [HME.out]
    have HFE := Lib.hid (show (f (.string q.1.data.toList)).getD zeroR = zeroR by rw [h1]; rfl)
    have HFS := Lib.hid (show (f (.string q.1.data.toList)).isSome = false by rw [h1]; rfl)
    unfold zeroR at HFE
    clear hm h1 h2
    go_enter Tryz.func133, Tryz.ntmps133
    go_wp2_with (at_lookup; refine wpList_look_ok_F rfl _ _ 171 rfl 9 71 lawStr Tryz.underlying171 (HZR.out _) m n f (by rfl) HMF.out _ (.string q.1.data.toList) rfl HKY.out ?_; unfold zeroR; rw [HFE.out, HFS.out])
    go_quiet (fail)
    go_wp2_with fail
    go_ret
    exact ⟨rfl, below_drewNV (by repeat (first | exact Below.refl _ _ | refine Below.drew ?_ | refine Below.alloc ?_ (by simp <;> omega) _ | refine Below.setCell ?_ (by simp <;> omega) _)) _⟩
end Go.Proofs.YtenfkejbndifdaaGreatDoor

namespace Go.Proofs.YtenfkejbndifdaaGreatDoor
set_option linter.unusedVariables false
set_option linter.unusedSimpArgs false
open Go Go.RowKit

def ReqsBd (l : List ReqL) : Prop := ∀ q ∈ l, q.1.size ≤ 1000000 ∧ q.2.length ≤ 1000000
def upAll (l : List ReqL) : Bool := l.all fun q => upB (canon q.2)
theorem upAll_iff {l : List ReqL} : upAll l = true ↔ ∀ q ∈ l, upB (canon q.2) = true := List.all_eq_true
theorem any_up (l : List ReqL) : (l.any fun q => !upB (canon q.2)) = !upAll l := by
  unfold upAll
  rw [List.all_eq_not_any_not, Bool.not_not]
set_option maxRecDepth 100000 in
theorem mupward1_any (q : ReqL) (r : Value) (W : World) (hl : q.2.length ≤ 1000000000) (hS : SpansOf W.heap.size r q.2 W) :
    Calls Tryz.prog 118 #[.agg #[.string q.1, r]] W fun e w' => e = .returned (.bool (!upB (canon q.2))) ∧ Below W.heap.size W w' := by
  have HU := Lib.hid (fun W' (hb : Below W.heap.size W W') => Upward_any r q.2 W' hl ((hS.below hb (Nat.le_refl _)).mono hb.size))
  obtain ⟨a, c, rfl, _⟩ := hS
  have HB1 : Hid (Below W.heap.size W (W.alloc (.cells #[.string q.1, .slice a q.2.length c] 58))) := Lib.hid (belQ _ _)
  go_enter Tryz.func118, Tryz.ntmps118
  go_wp2_with fail
  refine (HU.out _ HB1.out).mono ?_
  rintro e w1 ⟨rfl, hb1⟩
  have HB2 := Lib.hid (HB1.out.trans (hb1.mono HB1.out.size))
  clear hb1
  go_wp2_with fail
  go_ret
  exact ⟨rfl, HB2.out⟩
set_option maxRecDepth 100000 in
theorem mupward_any (v : Value) (l : List ReqL) (w : World) (hl : l.length ≤ 1000000000) (hq : ReqsBd l) (hR : ReqsOf w.heap.size v l w) :
    Calls Tryz.prog 73 #[v] w fun e w' => e = .returned (.bool (upAll l)) ∧ Below w.heap.size w w' := by
  have HP : Hid (PredQ 118 #[] l (fun q => !upB (canon q.2)) w) := Lib.hid (fun W x r hx hb hS => (mupward1_any x r W (by have := (hq x hx).2; omega) hS).mono fun e w' h => ⟨h.1, hb.trans (h.2.mono hb.size)⟩)
  have HC := Lib.hid (has_req 118 _ (enters_of Tryz.func118 (by kernel_rfl) rfl) _ v l w hl hR HP.out)
  rw [any_up] at HC
  obtain ⟨b, hb⟩ : ∃ b, upAll l = b := ⟨_, rfl⟩
  rw [hb] at HC ⊢
  clear hb hq hR
  go_enter Tryz.func73, Tryz.ntmps73
  go_wp2_with fail
  refine HC.out.mono ?_
  rintro e w1 ⟨rfl, hb1⟩
  have HB1 := Lib.hid hb1
  clear hb1 HC HP
  go_wp2_with fail
  go_ret
  exact ⟨rfl, HB1.out⟩
set_option maxRecDepth 100000 in
theorem mplain1_any (x : RelL) (r : Value) (W : World) (hb : RelBd x) (hR : ReqsOf W.heap.size r x.reqs W) :
    Calls Tryz.prog 75 #[.agg (relC x r)] W fun e w' => e = .returned (.bool (!upAll x.reqs)) ∧ Below W.heap.size W w' := by
  have HU := Lib.hid (fun W' (hb' : Below W.heap.size W W') => mupward_any r x.reqs W' (by have := hb.len; omega) hb.reqs ((hR.below hb' (Nat.le_refl _)).mono hb'.size))
  obtain ⟨a, c, rfl, _⟩ := hR
  have HB1 : Hid (Below W.heap.size W (W.alloc (.cells (relC x (.slice a x.reqs.length c)) 71))) := Lib.hid (belQ _ _)
  simp only [relC] at HB1 ⊢
  clear hb
  go_enter Tryz.func75, Tryz.ntmps75
  go_wp2_with fail
  refine (HU.out _ HB1.out).mono ?_
  rintro e w1 ⟨rfl, hb1⟩
  have HB2 := Lib.hid (HB1.out.trans (hb1.mono HB1.out.size))
  clear hb1
  go_wp2_with fail
  go_ret
  exact ⟨rfl, HB2.out⟩
theorem mplain1_pred (X : List RelL) (w : World) (hq : ∀ x ∈ X, RelBd x) : PredR 75 #[] X (fun x => !upAll x.reqs) w := by
  intro W2 x r hx hb2 hS
  have h := mplain1_any x r W2 (hq x hx) hS
  refine h.mono ?_
  rintro e w' ⟨h1, h2⟩
  exact ⟨h1, hb2.trans (h2.mono hb2.size)⟩
def PlainR (w : World) (X : List RelL) (roots : List ReqL) (e : Ending) (w' : World) : Prop := Below w.heap.size w w' ∧ ∃ b : Bool, e = .returned (.bool b) ∧ (b = true ↔ PlainP X roots)
theorem PlainR.mk {w w' : World} {X : List RelL} {roots : List ReqL} {b : Bool} (hb : Below w.heap.size w w') (h : b = true ↔ PlainP X roots) : PlainR w X roots (.returned (.bool b)) w' := ⟨hb, b, rfl, h⟩
theorem PlainR.no {w w' : World} {X : List RelL} {roots : List ReqL} (hb : Below w.heap.size w w') (h : ¬ PlainP X roots) : PlainR w X roots (.returned (.bool false)) w' := ⟨hb, false, rfl, (fun h => by cases h), fun h2 => absurd h2 h⟩
theorem own_up {X : List RelL} : (X.any fun x => !upAll x.reqs) = false ↔ ∀ i, i < X.length → ∀ q ∈ (X.getD i default).reqs, upB (canon q.2) = true := by
  rw [List.any_eq_false]
  constructor
  · intro h i hi q hq
    have h1 := h _ (List.getElem_mem hi)
    rw [List.getD_eq_getElem?_getD, List.getElem?_eq_getElem hi] at hq
    simp only [Bool.not_eq_true', Bool.not_eq_false] at h1
    exact upAll_iff.1 h1 q hq
  · intro h x hx
    obtain ⟨i, hi, rfl⟩ := List.mem_iff_getElem.1 hx
    have h1 := h i hi
    rw [List.getD_eq_getElem?_getD, List.getElem?_eq_getElem hi] at h1
    simp only [Bool.not_eq_true', Bool.not_eq_false]
    exact upAll_iff.2 h1
set_option maxRecDepth 100000 in
set_option maxHeartbeats 4000000 in
theorem MPlain_any (v iv rov : Value) (X : List RelL) (roots : List ReqL) (w : World) (hm : MaxOk w) (hX : X.length ≤ 1000000) (hq : ∀ x ∈ X, RelBd x) (hR : RelsOf w.heap.size v X w)
    (hro : roots.length ≤ 1000000) (hrq : ReqsBd roots) (hRo : ReqsOf w.heap.size rov roots w) :
    Calls Tryz.prog 22 #[.agg #[v, iv], rov] w (PlainR w X roots) := by
  have HC := Lib.hid (fun W (hb : Below w.heap.size w W) => IdxCheck_any v iv X W (hm.below hb hm.pos) hX hq ((hR.below hb (Nat.le_refl _)).mono hb.size))
  have HQ := Lib.hid (fun W (hb : Below w.heap.size w W) => CheckReqs_any rov roots W (hm.below hb hm.pos) (by omega) (fun q hq2 => ⟨(hrq q hq2).1, by have := (hrq q hq2).2; omega⟩) ((hRo.below hb (Nat.le_refl _)).mono hb.size))
  have HU := Lib.hid (fun W (hb : Below w.heap.size w W) => mupward_any rov roots W (by omega) hrq ((hRo.below hb (Nat.le_refl _)).mono hb.size))
  have HA := Lib.hid (fun W (hb : Below w.heap.size w W) => has_rel 75 #[] (enters_of Tryz.func75 (by kernel_rfl) rfl) (fun x => !upAll x.reqs) v X W (by omega) ((hR.below hb (Nat.le_refl _)).mono hb.size) (mplain1_pred X W hq))
  obtain ⟨va, vn, vc, rfl⟩ : ∃ a n c, v = .slice a n c := by obtain ⟨a, c, _, e, _⟩ := hR.rv; exact ⟨_, _, _, e⟩
  obtain ⟨ra, rc, rfl⟩ : ∃ ra rc, rov = .slice ra roots.length rc := by obtain ⟨a, c, e, _⟩ := hRo; exact ⟨a, c, e⟩
  clear hm hR hRo hrq hq
  obtain ⟨e1, he1⟩ : ∃ e1, checkX X = e1 := ⟨_, rfl⟩
  obtain ⟨e2, he2⟩ : ∃ e2, checkReqs roots = e2 := ⟨_, rfl⟩
  obtain ⟨b3, hb3⟩ : ∃ b3, upAll roots = b3 := ⟨_, rfl⟩
  obtain ⟨b4, hb4⟩ : ∃ b4, (X.any fun x => !upAll x.reqs) = b4 := ⟨_, rfl⟩
  rw [he1] at HC
  rw [he2] at HQ
  rw [hb3] at HU
  rw [hb4] at HA
  have HE1 := Lib.hid he1
  have HE2 := Lib.hid he2
  have HE3 := Lib.hid hb3
  have HE4 := Lib.hid hb4
  clear he1 he2 hb3 hb4
  have HB0 : Hid (Below w.heap.size w (w.alloc (.cells #[.slice va vn vc, iv] 25))) := Lib.hid (belQ _ _)
  have HI0 : Hid ((w.alloc (.cells #[.slice va vn vc, iv] 25)).heap[w.heap.size]? = some (.cells #[.slice va vn vc, iv] 25 (0, 0))) := Lib.hid (World.alloc_heap_new w _)
  have hw0 : w.heap.size < (w.alloc (.cells #[.slice va vn vc, iv] 25)).heap.size := by simp
  go_enter Tryz.func22, Tryz.ntmps22
  go_upto_region 1 with fail
  generalize w.alloc (.cells #[.slice va vn vc, iv] 25) = W at *
  have HT := Lib.hid (fun W' (h : Below W.heap.size W W') => HB0.out.trans (h.mono HB0.out.size))
  have HI := Lib.hid (fun W' (h : Below W.heap.size W W') => (h.block w.heap.size hw0).trans HI0.out)
  have c0 : W.cell? ⟨w.heap.size, 0, none⟩ = some (.slice va vn vc) := cell_of_row _ _ 0 _ _ _ HI0.out
  have c1 : W.cell? ⟨w.heap.size, 1, none⟩ = some iv := cell_of_row _ _ 1 _ _ _ HI0.out
  go_wp2_with fail
  refine (HC.out _ HB0.out).mono ?_
  rintro e w1 ⟨rfl, hb1⟩
  have HB1 := Lib.hid hb1
  clear hb1 c0 c1
  by_cases h1 : e1 = 0
  case neg =>
    have h1b : (e1 != 0) = true := by simpa using h1
    go_wp2_with fail
    go_ret
    exact PlainR.no (HT.out _ HB1.out) (fun h => h1 (HE1.out.symm.trans h.idx))
  subst h1
  go_wp2_with fail
  refine (HQ.out _ (HT.out _ HB1.out)).mono ?_
  rintro e w2 ⟨rfl, hb2⟩
  have HB2 := Lib.hid (HB1.out.trans (hb2.mono HB1.out.size))
  clear hb2
  by_cases h2 : e2 = 0
  case neg =>
    have h2b : (e2 != 0) = true := by simpa using h2
    go_wp2_with fail
    go_ret
    exact PlainR.no (HT.out _ HB2.out) (fun h => h2 (HE2.out.symm.trans h.roots.1))
  subst h2
  go_wp2_with fail
  refine (HU.out _ (HT.out _ HB2.out)).mono ?_
  rintro e w3 ⟨rfl, hb3⟩
  have HB3 := Lib.hid (HB2.out.trans (hb3.mono HB2.out.size))
  clear hb3
  cases b3 with
  | false =>
    go_wp2_with fail
    go_ret
    exact PlainR.no (HT.out _ HB3.out) (fun h => by have := upAll_iff.2 h.roots.2; rw [HE3.out] at this; cases this)
  | true =>
    have c0 : w3.cell? ⟨w.heap.size, 0, none⟩ = some (.slice va vn vc) := cell_of_row _ _ 0 _ _ _ (HI.out _ HB3.out)
    go_wp2_with fail
    refine (HA.out _ (HT.out _ HB3.out)).mono ?_
    rintro e w4 ⟨rfl, hb4⟩
    have HB4 := Lib.hid (HB3.out.trans (hb4.mono HB3.out.size))
    clear hb4
    go_wp2_with fail
    go_ret
    refine PlainR.mk (HT.out _ HB4.out) ?_
    have HE5 := HE4.out
    cases b4 with
    | false => exact ⟨fun _ => ⟨HE1.out, ⟨HE2.out, upAll_iff.1 HE3.out⟩, own_up.1 HE5⟩, fun _ => rfl⟩
    | true => exact ⟨(fun h => by cases h), fun h => by have := own_up.2 h.own; rw [HE5] at this; cases this⟩
set_option maxRecDepth 100000 in
theorem mplace_any (x : RelL) (r : Value) (w : World) (hr : ∃ a n c, r = .slice a n c) (hv : validB x.ver.1 x.ver.2.1 x.ver.2.2 = true) :
    Calls Tryz.prog 84 #[.agg (relC x r)] w fun e w' => e = .returned (.int .i64 (plc x.ver)) ∧ Below w.heap.size w w' := by
  obtain ⟨a, n, c, rfl⟩ := hr
  have HP := Lib.hid (fun W => Place_any x.ver.1 x.ver.2.1 x.ver.2.2 W)
  rw [show placeV x.ver.1 x.ver.2.1 x.ver.2.2 = (plc x.ver, 0) by unfold placeV plc; rw [if_pos hv]] at HP
  have HB1 : Hid (Below w.heap.size w (w.alloc (.cells (relC x (.slice a n c)) 71))) := Lib.hid (belQ _ _)
  obtain ⟨p, hp⟩ : ∃ p, plc x.ver = p := ⟨_, rfl⟩
  rw [hp] at HP ⊢
  simp only [relC] at HB1 ⊢
  clear hv hp
  go_enter Tryz.func84, Tryz.ntmps84
  go_wp2_with fail
  refine (HP.out _).mono ?_
  rintro e w1 ⟨rfl, hb1⟩
  have HB2 := Lib.hid (HB1.out.trans (hb1.mono HB1.out.size))
  clear hb1
  go_wp2_with fail
  go_ret
  exact ⟨rfl, HB2.out⟩
set_option maxRecDepth 100000 in
theorem mselected_any (x : RelL) (r : Value) (w : World) : Calls Tryz.prog 58 #[.agg (relC x r)] w fun e w' => e = .returned (.agg #[.string x.path, intC x.ver.1, intC x.ver.2.1, intC x.ver.2.2]) ∧ Below w.heap.size w w' := by
  unfold relC
  go_enter Tryz.func58, Tryz.ntmps58
  go_wp2_with fail
  refine bodyPost_ret (results_cell_row rfl _ _ (w.heap.size + 1) _ _ _ _ rfl (by have := World.alloc_heap_new (w.alloc (.cells #[.string x.path, intC x.ver.1, intC x.ver.2.1, intC x.ver.2.2, r, .string x.ar, .string x.ifc, .string x.cert, .bool x.yk] 71)) (.cells #[.string x.path, intC x.ver.1, intC x.ver.2.1, intC x.ver.2.2] 43); rw [World.size_alloc] at this; exact this) Tryz.underlying43 rfl (by kernel_rfl)) rfl ?_
  exact ⟨rfl, (by repeat (first | exact Below.refl _ _ | refine Below.drew ?_ | refine Below.alloc ?_ (by simp <;> omega) _ | refine Below.setCell ?_ (by simp <;> omega) _))⟩
end Go.Proofs.YtenfkejbndifdaaGreatDoor

namespace Go.Proofs.YtenfkejbndifdaaGreatDoor
set_option linter.unusedVariables false
set_option linter.unusedSimpArgs false
open Go Go.RowKit Go.Maps

theorem SelF.start (G : RelL → Value → Prop) : SelF G [] (fun _ => none) := fun _ => .inr ⟨rfl, fun _ h => by cases h⟩
theorem SelF.put {G : RelL → Value → Prop} {s : List SelL} {f : Lit → Option Value} {k : Nat} (h : SelF G (s.take k) f) (hk : k < s.length) {x : RelL} {r : Value} (hx : keyL x = s.getD k default) (hg : G x r) :
    SelF G (s.take (k + 1)) (putF f (.string x.path.data.toList) (.agg (relC x r))) := by
  have hs : s.take (k + 1) = s.take k ++ [keyL x] := by
    rw [hx, List.take_succ_eq_append_getElem hk, List.getD_eq_getElem?_getD, List.getElem?_eq_getElem hk]; rfl
  intro p
  rw [hs]
  by_cases e : x.path = p
  · refine .inl ⟨x, r, by simp, e, hg, ?_⟩
    subst e
    simp [putF]
  · have hne : ¬ (Lit.string p.data.toList = Lit.string x.path.data.toList) := fun h => by
      injection h with h
      exact e (ByteArray.ext (Array.toList_inj.1 h.symm))
    rcases h p with ⟨x2, r2, h1, h2, h3, h4⟩ | ⟨h1, h2⟩
    · refine .inl ⟨x2, r2, by simp [h1], h2, h3, ?_⟩
      unfold putF
      rw [if_neg hne, h4]
    · refine .inr ⟨?_, fun y hy => ?_⟩
      · unfold putF
        rw [if_neg hne, h1]
      · rcases List.mem_append.1 hy with hy | hy
        · exact h2 y hy
        · rw [List.mem_singleton.1 hy]; exact e
theorem valid_of_check {X : List RelL} (h : checkX X = 0) {x : RelL} (hx : x ∈ X) : validB x.ver.1 x.ver.2.1 x.ver.2.2 = true := by
  obtain ⟨k, hk, rfl⟩ := List.mem_iff_getElem.1 hx
  unfold checkX at h
  split at h
  · exact absurd h (by decide)
  · have h1 := firstE_zero h k hk
    unfold idxErr at h1
    have h2 : relE (X.getD k default) = 0 := by
      by_cases e : relE (X.getD k default) = 0
      · exact e
      · rw [if_pos e] at h1; exact absurd h1 e
    rw [List.getD_eq_getElem?_getD, List.getElem?_eq_getElem hk] at h2
    simp only [Option.getD_some] at h2
    unfold relE at h2
    split at h2
    · exact absurd h2 (by decide)
    · split at h2
      · exact absurd h2 (by decide)
      · rename_i h3
        have h3 : ¬ (validB X[k].ver.1 X[k].ver.2.1 X[k].ver.2.2 && _) = false := h3
        rw [Bool.not_eq_false, Bool.and_eq_true] at h3
        exact h3.1
theorem broken_pred (G : RelL → Value → Prop) (hG : ∀ x r, G x r → ∃ a n c, r = .slice a n c) (s : List SelL) (f : Lit → Option Value) (hn : (s.map (·.1)).Nodup) (hv : ∀ y ∈ s, validB y.2.1 y.2.2.1 y.2.2.2 = true) (hF : SelF G s f) (es : List ReqL) (m n c : Nat) (w : World)
    (hq : ∀ q ∈ es, q.1.size ≤ 1000000 ∧ q.2.length ≤ 1000000) (hm : MapF Tryz.prog 9 w m n f) (hc : w.cell? ⟨c, 0, none⟩ = some (.map (some m))) :
    PredQ 133 #[.pointer (some ⟨c, 0, none⟩)] es (fun q => !metB s q) w := by
  intro W x r hx hb hS
  have hlt := World.block_lt_of_cell? _ _ hc
  simp only at hlt
  refine (broken_any G hG s f hn hv hF x r m n c W (hq x hx).1 (by have := (hq x hx).2; omega) hS (hm.below hb) ((hb.cell (p := ⟨c, 0, none⟩) hlt).trans hc)).mono ?_
  rintro e w' ⟨rfl, h⟩
  exact ⟨rfl, hb.trans (h.mono hb.size)⟩
theorem all_met {s : List SelL} {es : List ReqL} (h : es.any (fun q => !metB s q) = false) : ∀ q ∈ es, metB s q = true := fun q hq => by
  rw [List.any_eq_false] at h
  have := h q hq
  simpa using this
end Go.Proofs.YtenfkejbndifdaaGreatDoor

namespace Go.Proofs.YtenfkejbndifdaaGreatDoor
set_option linter.unusedVariables false
set_option linter.unusedSimpArgs false
open Go Go.RowKit Go.Maps

theorem relXs_at : ∀ {l : List RelL} {rs : List Value}, rs.length = l.length → ∀ {i j : Nat}, i < l.length → j < 9 → (relXs l rs)[i * 9 + j]? = (relC (l.getD i default) (rs.getD i undef)).toList[j]?
  | x :: l, r :: rs, h, 0, j, hi, hj => by
    unfold relXs
    rw [List.zip_cons_cons, List.flatMap_cons, Nat.zero_mul, Nat.zero_add, List.getElem?_append_left (by simp [relC]; omega)]
    rfl
  | x :: l, r :: rs, h, i + 1, j, hi, hj => by
    have ih := relXs_at (l := l) (rs := rs) (by simpa using h) (i := i) (j := j) (by simpa using hi) hj
    unfold relXs at ih ⊢
    rw [List.zip_cons_cons, List.flatMap_cons, List.getElem?_append_right (by simp [relC]; omega), show (i + 1) * 9 + j - (relC x r).toList.length = i * 9 + j by simp [relC]; omega, ih]
    rfl
theorem own_rels {W : World} {B B2 : Nat} {v : Value} {l : List RelL} {rs : List Value} (hrl : rs.length = l.length) (h : W.ownsRow B 71 9 v l.length (relXs l rs)) (hB : B2 ≤ W.heap.size)
    (he : ∀ i, i < l.length → ReqsOf B2 (rs.getD i undef) (l.getD i default).reqs W) : RelsOf W.heap.size v l W := by
  have hxl := relXs_length hrl
  have hat := @relXs_at l rs hrl
  generalize relXs l rs = xs at *
  obtain ⟨hl, ⟨rfl, h0⟩ | ⟨g, cap, cur, rfl, h1, h2, h3, h4, h5, h6⟩⟩ := h
  · obtain rfl := List.length_eq_zero_iff.1 h0
    exact ⟨none, 0, rfl, fun i q hq => by simp at hq⟩
  · refine ⟨_, cap, rfl, fun i q hq => ?_⟩
    have hi := (List.getElem?_eq_some_iff.1 hq).1
    have hqd : l.getD i default = q := by rw [List.getD_eq_getElem?_getD, hq]; rfl
    have key : ∀ j u, j < 9 → (relC q (rs.getD i undef)).toList[j]? = some u → W.cell? ⟨g, 0 + i * 9 + j, none⟩ = some u := fun j u hj hu => by
      have hu2 := hat hi hj
      rw [hqd, hu] at hu2
      have hj2 := (List.getElem?_eq_some_iff.1 hu2).1
      rw [cell_of_row _ _ _ _ _ _ h2, ← hu2, ← h6, List.getElem?_take, if_pos (by omega)]
      simp
    refine ⟨g, 0, rfl, (Array.getElem?_eq_some_iff.1 h2).1, rs.getD i undef, key 0 _ (by omega) rfl, key 1 _ (by omega) rfl, key 2 _ (by omega) rfl, key 3 _ (by omega) rfl, key 4 _ (by omega) rfl, key 5 _ (by omega) rfl, key 6 _ (by omega) rfl, key 7 _ (by omega) rfl, key 8 _ (by omega) rfl, ?_⟩
    have := he i hi
    rw [hqd] at this
    exact this.mono hB
end Go.Proofs.YtenfkejbndifdaaGreatDoor

namespace Go.Proofs.YtenfkejbndifdaaGreatDoor
set_option linter.unusedVariables false
set_option linter.unusedSimpArgs false
open Go Go.RowKit Go.Maps

theorem pick_at {X : List RelL} {s : List SelL} (hc : checkX X = 0) (hfo : ∀ y ∈ s, (findX X y).isSome = true) {k : Nat} (h : k < s.length) :
    ∃ x, (pickK X s s.length)[k]? = some x ∧ findR X (s.getD k default) = some x ∧ x ∈ X ∧ keyL x = s.getD k default ∧ reqsOf X (s.getD k default) = x.reqs := by
  have hm : s.getD k default ∈ s := by rw [List.getD_eq_getElem?_getD, List.getElem?_eq_getElem h]; exact List.getElem_mem h
  obtain ⟨x, hx⟩ := Option.isSome_iff_exists.1 (hfo _ hm)
  have hf : findR X (s.getD k default) = some x := by
    unfold findX at hx
    rwa [if_pos hc] at hx
  refine ⟨x, ?_, hf, ?_, ?_, ?_⟩
  · unfold pickK
    rw [List.take_length, List.getElem?_map, List.getElem?_eq_getElem h]
    rw [List.getD_eq_getElem?_getD, List.getElem?_eq_getElem h] at hx
    simp only [Option.map_some, Option.getD_some] at hx ⊢
    rw [hx]
    rfl
  · unfold findR at hf
    exact List.mem_of_find?_eq_some hf
  · unfold findR at hf
    have := List.find?_some hf
    simpa using this
  · unfold reqsOf
    rw [hf]
def PathXs (l : List ReqL) (xs : List Value) : Prop := ∀ i q, l[i]? = some q → xs[i * 2]? = some (.string q.1) ∧ ∃ a n c, xs[i * 2 + 1]? = some (.slice a n c)
theorem ReqXs.paths {B : Nat} {l : List ReqL} {xs : List Value} {W : World} (h : ReqXs B l xs W) : PathXs l xs := fun i q hq => by
  obtain ⟨r, h1, h2, a, c, rfl, _⟩ := h i q hq
  exact ⟨h1, _, _, _, h2⟩
theorem PathXs.tail {q : ReqL} {l : List ReqL} {xs : List Value} (h : PathXs (q :: l) xs) : PathXs l (xs.drop 2) := fun i x hx => by
  have := h (i + 1) x (by simpa using hx)
  rw [List.getElem?_drop, List.getElem?_drop, show 2 + i * 2 = (i + 1) * 2 by omega, show 2 + (i * 2 + 1) = (i + 1) * 2 + 1 by omega]
  exact this
theorem PathXs.app {l m : List ReqL} {xs ys : List Value} (h : PathXs l xs) (hl : xs.length = l.length * 2) (h2 : PathXs m ys) : PathXs (l ++ m) (xs ++ ys) := fun i x hx => by
  by_cases hi : i < l.length
  · rw [List.getElem?_append_left hi] at hx
    obtain ⟨g1, a, n, c, g2⟩ := h i x hx
    rw [List.getElem?_append_left (by omega), List.getElem?_append_left (by omega)]
    exact ⟨g1, a, n, c, g2⟩
  · rw [List.getElem?_append_right (by omega)] at hx
    obtain ⟨g1, a, n, c, g2⟩ := h2 (i - l.length) x hx
    rw [List.getElem?_append_right (by omega), List.getElem?_append_right (by omega), show i * 2 - xs.length = (i - l.length) * 2 by omega, show i * 2 + 1 - xs.length = (i - l.length) * 2 + 1 by omega]
    exact ⟨g1, a, n, c, g2⟩
theorem reqs_src {B : Nat} {l : List ReqL} {W : World} {v : Value} (h : ReqsOf B v l W) : ∃ news, Src Tryz.prog 2 26 v l.length news W ∧ PathXs l news := by
  have h2 := h
  obtain ⟨ao, cap, rfl, hh⟩ := h
  by_cases h0 : l = []
  · subst h0
    cases ao with
    | none => exact ⟨[], Src.ofNil _ Tryz.underlying26 cap, fun i q hq => by cases hq⟩
    | some a => exact ⟨[], Src.ofSlice _ Tryz.underlying26 a 0 cap [] rfl (fun j u hu => by simp at hu) (fun _ h => by cases h), fun i q hq => by cases hq⟩
  · have hp : 0 < l.length := List.length_pos_iff.2 h0
    obtain ⟨b, off, _, rfl, _⟩ := hh 0 l[0] (by simp [hp])
    obtain ⟨xs, hx1, hx2, hx3⟩ := reqs_cells h2
    refine ⟨xs, Src.ofSlice _ Tryz.underlying26 ⟨b, off, none⟩ l.length cap xs hx1 (fun j u hu => by rw [Addr.add_lit]; exact hx2 j u hu) (fun u hu => ?_), fun i q hq => ?_⟩
    · obtain ⟨j, hj, rfl⟩ := List.mem_iff_getElem.1 hu
      obtain ⟨r, h1, h2, h3⟩ := hx3 (j / 2) l[j / 2] (by simp <;> omega)
      obtain ⟨_, _, rfl, _⟩ := h3
      rcases Nat.mod_two_eq_zero_or_one j with hm | hm
      · have e2 : j / 2 * 2 = j := by omega
        rw [e2, List.getElem?_eq_getElem hj] at h1
        rw [Option.some.inj h1]; rfl
      · have e2 : j / 2 * 2 + 1 = j := by omega
        rw [e2, List.getElem?_eq_getElem hj] at h2
        rw [Option.some.inj h2]; rfl
    · obtain ⟨r, h1, h2, a, c, rfl, _⟩ := hx3 i q hq
      exact ⟨h1, _, _, _, h2⟩
noncomputable def mapLen (P : Program) (k : TypeId) (W : World) (b : Nat) : Nat :=
  match W.heap[b]? with
  | some (.map es _) => Maps.size (DataW.map ((es.toList.map (WideElems.rg P k RV)).foldr DataW.insert []))
  | _ => 0
theorem mapLen_of {P : Program} {k : TypeId} {W : World} {b n : Nat} {f : Lit → Option Value} (K : Keyed P k) (h : MapF P k W b n f) (ks : List Lit) (hn : ks.Nodup) (hk : ∀ q, q ∈ ks ↔ (f q).isSome = true) : mapLen P k W b = ks.length := by
  obtain ⟨D, h1, h2, h3, h4⟩ := h
  have hs := size_of_keys (h1.canon K) h3 ks hn hk
  obtain ⟨es, clock, e1, _, _, rfl⟩ := h1
  unfold mapLen
  rw [e1]
  exact hs
def keyP (p : ByteArray) : Lit := .string p.data.toList
theorem keyP_inj {p q : ByteArray} (h : keyP p = keyP q) : p = q := by
  unfold keyP at h
  injection h with h
  exact ByteArray.ext (Array.toList_inj.1 h)
def SeenF (seen : List ByteArray) (f : Lit → Option Value) : Prop := (∀ p ∈ seen, f (keyP p) = some (.bool true)) ∧ ∀ q, (∀ p ∈ seen, keyP p ≠ q) → f q = none
theorem SeenF.start : SeenF [] (fun _ => none) := ⟨fun p hp => (by cases hp), fun _ _ => rfl⟩
theorem SeenF.put {seen : List ByteArray} {f : Lit → Option Value} (h : SeenF seen f) (p : ByteArray) : SeenF (p :: seen) (putF f (.string p.data.toList) (.bool true)) := by
  refine ⟨fun r hr => ?_, fun q hq => ?_⟩
  · by_cases e : keyP r = .string p.data.toList
    · rw [e, putF_same]
    · rw [putF_other _ _ e]
      rcases List.mem_cons.1 hr with rfl | hr
      · exact absurd rfl e
      · exact h.1 r hr
  · have e : q ≠ .string p.data.toList := fun e => hq p (by simp) e.symm
    rw [putF_other _ _ e]
    exact h.2 q fun r hr => hq r (by simp [hr])
theorem SeenF.look {seen : List ByteArray} {f : Lit → Option Value} (h : SeenF seen f) (p : ByteArray) : ∃ sb : Bool, (f (.string p.data.toList)).getD (.bool false) = .bool sb ∧ (sb = true ↔ p ∈ seen) := by
  by_cases e : p ∈ seen
  · exact ⟨true, by rw [show Lit.string p.data.toList = keyP p from rfl, h.1 p e]; rfl, by simp [e]⟩
  · have h2 := h.2 (.string p.data.toList) fun r hr e2 => e (keyP_inj (p := r) (q := p) e2 ▸ hr)
    exact ⟨false, by rw [h2]; rfl, by simp [e]⟩
theorem SeenF.keys {seen : List ByteArray} {f : Lit → Option Value} (h : SeenF seen f) : ∀ q, q ∈ seen.map keyP ↔ (f q).isSome = true := fun q => by
  by_cases e : q ∈ seen.map keyP
  · obtain ⟨p, hp, rfl⟩ := List.mem_map.1 e
    rw [h.1 p hp]
    exact ⟨fun _ => rfl, fun _ => e⟩
  · rw [h.2 q fun p hp e2 => e (List.mem_map.2 ⟨p, hp, e2⟩)]
    exact ⟨fun h => absurd h e, fun h => by cases h⟩
theorem seen_nodup {seen : List ByteArray} (h : seen.Nodup) : (seen.map keyP).Nodup := by
  unfold List.Nodup at h ⊢
  rw [List.pairwise_map]
  exact h.imp fun {a b} hab e => hab (keyP_inj e)
theorem SeenF.size {P : Program} {k : TypeId} {W : World} {b n : Nat} {seen : List ByteArray} {f : Lit → Option Value} (K : Keyed P k) (h : SeenF seen f) (hm : MapF P k W b n f) (hn : seen.Nodup) : mapLen P k W b = seen.length := by
  rw [mapLen_of K hm _ (seen_nodup hn) h.keys, List.length_map]
theorem field_reqs (x : RelL) (r : Value) (w : World) : (Instr.field 71 (.agg #[.string x.path, intC x.ver.1, intC x.ver.2.1, intC x.ver.2.2, r, .string x.ar, .string x.ifc, .string x.cert, .bool x.yk]) 2).run Tryz.prog w = .ok r w := by
  have hu := Tryz.underlying71
  simp [Instr.field, run_underlying hu]
  go_simp
  simp [asAgg]
def sliceN : Value → Nat
  | .slice _ n _ => n
  | _ => 0
end Go.Proofs.YtenfkejbndifdaaGreatDoor
