/- The index's place and the closure of Solves that sees a broken requirement. Solves: the map of the selected releases, filled one after another; what Solves returns. The selected releases, in memory. Solves: the queue of requirements and the paths that have been seen, in memory. Contract of the index's Solves. Contract of the graph's iterator over the successors of a node. -/
import Derived.Test.YtbbnoloploklkaaGreatDoorQK
import Derived.Test.YtbbnoloploklkaaGreatDoorQD
import Derived.Test.YtbbnoloploklkaaGreatDoorQI
import Derived.Test.YtbbnoloploklkaaGreatDoorQH
import Derived.Test.YtbbnoloploklkaaGreatDoorQC
namespace Go.Proofs.YtbbnoloploklkaaGreatDoor
set_option linter.unusedVariables false
set_option linter.unusedSimpArgs false
open Go Go.RowKit Go.Maps

set_option maxRecDepth 100000 in
theorem iplace_any (x : RelL) (r : Value) (w : World) : Calls Tryz.prog 123 #[.agg (relC x r)] w fun e w' => e = .returned (.int .i64 (placeV x.ver.1 x.ver.2.1 x.ver.2.2).1) ∧ Below w.heap.size w w' := by
  obtain ⟨p, ⟨v1, v2, v3⟩, rq, sa, si, sc, yk⟩ := x
  unfold relC
  simp only
  obtain ⟨⟨pl, pe⟩, hpl⟩ : ∃ z, placeV v1 v2 v3 = z := ⟨_, rfl⟩
  have HP := Lib.hid (fun W => Place_any v1 v2 v3 W)
  rw [hpl] at HP ⊢
  clear hpl
  go_enter Tryz.func123, Tryz.ntmps123
  go_wp2_with (go_at_call 41; refine (HP.out _).mono ?_; rintro e w' ⟨rfl, hb⟩)
  go_ret
  exact ⟨rfl, (belQ w _).trans (hb.mono (by simp))⟩
def SelF (G : RelL → Value → Prop) (s : List SelL) (f : Lit → Option Value) : Prop :=
  ∀ p : ByteArray, (∃ x r, keyL x ∈ s ∧ x.path = p ∧ G x r ∧ f (.string p.data.toList) = some (.agg (relC x r))) ∨ (f (.string p.data.toList) = none ∧ ∀ y ∈ s, y.1 ≠ p)
theorem metB_none {s : List SelL} {q : ReqL} (h : ∀ y ∈ s, y.1 ≠ q.1) : metB s q = false := by
  unfold metB
  rw [List.any_eq_false]
  intro y hy e
  rw [Bool.and_eq_true] at e
  exact h y hy (of_decide_eq_true e.1)
theorem nodup_one {s : List SelL} (hn : (s.map (·.1)).Nodup) {a b : SelL} (ha : a ∈ s) (hb : b ∈ s) (e : a.1 = b.1) : a = b := by
  induction s with
  | nil => cases ha
  | cons y s ih =>
    rw [List.map_cons, List.nodup_cons] at hn
    rcases List.mem_cons.1 ha with h1 | h1 <;> rcases List.mem_cons.1 hb with h2 | h2
    · rw [h1, h2]
    · subst h1; exact absurd (List.mem_map.2 ⟨b, h2, e.symm⟩) hn.1
    · subst h2; exact absurd (List.mem_map.2 ⟨a, h1, e⟩) hn.1
    · exact ih hn.2 h1 h2
theorem metB_one {s : List SelL} {q : ReqL} {y : SelL} (hn : (s.map (·.1)).Nodup) (hy : y ∈ s) (e : y.1 = q.1) : metB s q = hasB q.2 (1000 * y.2.2.1 + y.2.2.2) := by
  unfold metB
  cases hb : hasB q.2 (1000 * y.2.2.1 + y.2.2.2) with
  | true =>
    rw [List.any_eq_true]
    exact ⟨y, hy, by rw [hb, Bool.and_true]; exact decide_eq_true e⟩
  | false =>
    rw [List.any_eq_false]
    intro z hz h
    rw [Bool.and_eq_true] at h
    have hzy : z.1 = y.1 := (of_decide_eq_true h.1).trans e.symm
    have : z = y := nodup_one hn hz hy hzy
    subst this
    rw [hb] at h
    cases h.2
theorem keepX {W w' : World} {g : Nat} {x : RelL} {r rx : Value} (hg : g < W.heap.size) (h : W.cell? ⟨g, 1, none⟩ = some r ∧ BoxR W (g + 1) x rx) (hb : Below W.heap.size W w') : w'.cell? ⟨g, 1, none⟩ = some r ∧ BoxR w' (g + 1) x rx :=
  ⟨(hb.cell (p := ⟨g, 1, none⟩) hg).trans h.1, h.2.on hb⟩
set_option maxRecDepth 100000 in
set_option maxHeartbeats 4000000 in
theorem broken_any (G : RelL → Value → Prop) (hG : ∀ x r, G x r → ∃ a n c, r = .slice a n c) (s : List SelL) (f : Lit → Option Value) (hn : (s.map (·.1)).Nodup) (hv : ∀ y ∈ s, validB y.2.1 y.2.2.1 y.2.2.2 = true) (hF : SelF G s f) (q : ReqL) (r : Value) (m n c : Nat) (W : World)
    (hq : q.1.size ≤ 1000000) (hl : q.2.length ≤ 1000000000) (hS : SpansOf W.heap.size r q.2 W) (hm : MapF Tryz.prog 9 W m n f) (hc : W.cell? ⟨c, 0, none⟩ = some (.map (some m))) :
    Calls Tryz.prog 121 #[.agg #[.string q.1, r], .pointer (some ⟨c, 0, none⟩)] W fun e w' => e = .returned (.bool (!metB s q)) ∧ Below W.heap.size W w' := by
  have hlt := World.block_lt_of_cell? _ _ hc
  simp only at hlt
  have HKY := Lib.hid (keyStr (p := q.1) (by unfold maxLen; omega))
  have HMF := Lib.hid (hm.alloc (.cells #[.string q.1, r] 58))
  have HZR := Lib.hid (show ∀ W, (zeroValue 71).run Tryz.prog W = .ok zeroR W from Tryz.zeroValue71)
  rcases hF q.1 with ⟨x, rx, h1, h2, h3, h4⟩ | ⟨h1, h2⟩
  · obtain ⟨xa, xn, xc, rfl⟩ := hG _ _ h3
    clear h3
    obtain ⟨pq, sq⟩ := q
    simp only at hq hl hS HKY HMF h2 h4
    subst h2
    have HME := Lib.hid (metB_one (q := (x.path, sq)) hn h1 rfl)
    have HVB := Lib.hid (show placeV x.ver.1 x.ver.2.1 x.ver.2.2 = (1000 * x.ver.2.1 + x.ver.2.2, 0) by unfold placeV; rw [if_pos (show validB x.ver.1 x.ver.2.1 x.ver.2.2 = true from hv _ h1)])
    obtain ⟨mb, hmb⟩ : ∃ mb, metB s (x.path, sq) = mb := ⟨_, rfl⟩
    rw [hmb]
    have HHB := Lib.hid (show hasB sq (1000 * x.ver.2.1 + x.ver.2.2) = mb from HME.out.symm.trans hmb)
    have HPL := Lib.hid (fun W => iplace_any x (.slice xa xn xc) W)
    rw [HVB.out] at HPL
    have HHA := Lib.hid (fun W' (hb : Below W.heap.size W W') => Has_any r sq (1000 * x.ver.2.1 + x.ver.2.2) W' hl ((hS.below hb (Nat.le_refl _)).mono hb.size))
    rw [HHB.out] at HHA
    obtain ⟨p, ⟨v1, v2, v3⟩, rq, sa, si, sc, yk⟩ := x
    have HFE := Lib.hid (show (f (.string p.data.toList)).getD zeroR = .agg (relC ⟨p, (v1, v2, v3), rq, sa, si, sc, yk⟩ (.slice xa xn xc)) by rw [h4]; rfl)
    have HFS := Lib.hid (show (f (.string p.data.toList)).isSome = true by rw [h4]; rfl)
    simp only [relC] at HFE HPL HHA HKY HMF
    clear hm h1 h4 hmb HME HVB HHB hS
    have HB1 : Hid (Below W.heap.size W ((W.alloc (.cells #[.string p, r] 58)).alloc (.cells (relC ⟨p, (v1, v2, v3), rq, sa, si, sc, yk⟩ (.slice xa xn xc)) 71))) := Lib.hid (by repeat (first | exact Below.refl _ _ | refine Below.drew ?_ | refine Below.alloc ?_ (by simp <;> omega) _ | refine Below.setCell ?_ (by simp <;> omega) _))
    have HX1 : Hid (BoxR ((W.alloc (.cells #[.string p, r] 58)).alloc (.cells (relC ⟨p, (v1, v2, v3), rq, sa, si, sc, yk⟩ (.slice xa xn xc)) 71)) (W.heap.size + 1) ⟨p, (v1, v2, v3), rq, sa, si, sc, yk⟩ (.slice xa xn xc)) := Lib.hid (by
      have := BoxR.made (W.alloc (.cells #[.string p, r] 58)) ⟨p, (v1, v2, v3), rq, sa, si, sc, yk⟩ (.slice xa xn xc)
      rw [World.size_alloc] at this
      exact this)
    simp only [relC] at HB1 HX1
    have HC1 : Hid (((W.alloc (.cells #[.string p, r] 58)).alloc (.cells #[.string p, intC v1, intC v2, intC v3, .slice xa xn xc, .string sa, .string si, .string sc, .bool yk] 71)).cell? ⟨W.heap.size, 1, none⟩ = some r) := Lib.hid (by
      rw [(belQ (W.alloc (.cells #[.string p, r] 58)) (.cells #[.string p, intC v1, intC v2, intC v3, .slice xa xn xc, .string sa, .string si, .string sc, .bool yk] 71)).cell (p := ⟨W.heap.size, 1, none⟩) (by simp)]
      exact cell_of_row _ _ 1 _ _ _ (World.alloc_heap_new W _))
    go_enter Tryz.func121, Tryz.ntmps121
    go_upto_region 2 with (at_lookup; refine wpList_look_ok_F rfl _ _ 157 rfl 9 71 lawStr Tryz.underlying157 (HZR.out _) m n f (by rfl) HMF.out _ (.string p.data.toList) rfl HKY.out ?_; rw [HFE.out, HFS.out])
    generalize hW1 : (W.alloc (.cells #[.string p, r] 58)).alloc (.cells #[.string p, intC v1, intC v2, intC v3, .slice xa xn xc, .string sa, .string si, .string sc, .bool yk] 71) = W1 at *
    clear hW1
    have HBC : Hid (Below W1.heap.size W1 W1) := Lib.hid (Below.refl _ _)
    have HSQ := Lib.hid (And.intro HC1.out HX1.out)
    have hz : W.heap.size < W1.heap.size := by have := HX1.out.lt; omega
    refine wp_region_noPanic ?_
    refine wp_region_held_drew (S := fun w' => w'.cell? ⟨W.heap.size, 1, none⟩ = some r ∧ BoxR w' (W.heap.size + 1) ⟨p, (v1, v2, v3), rq, sa, si, sc, yk⟩ (.slice xa xn xc)) (by kernel_rfl) ⟨HC1.out, HX1.out⟩ (fun hS0 => ?_)
    (refine wpAnyH_take (i := 0) (v := ?_) rfl (by kernel_rfl) (by kernel_rfl) (by kernel_rfl) (fun _ _ _ h => h) (Or.inl ⟨by rfl, ?_⟩) (by assumption) ?_; rotate_left; (· (intro w hSw; obtain ⟨c0, c1⟩ := hSw; go_simp; try with_reducible rfl)); (try simp only [zl1, zl2, zl3, Act.put, zl4, zl5, zl6]))
    (refine wpAnyH_take (i := 1) (v := ?_) rfl (by kernel_rfl) (by kernel_rfl) (by kernel_rfl) (fun _ _ _ h => h) (Or.inl ⟨by rfl, ?_⟩) (by assumption) ?_; rotate_left; (· (intro w hSw; obtain ⟨c0, c1⟩ := hSw; go_simp; try with_reducible rfl)); (try simp only [zl1, zl2, zl3, Act.put, zl4, zl5, zl6]))
    (refine wpAnyH_take (i := 2) (v := ?_) rfl (by kernel_rfl) (by kernel_rfl) (by kernel_rfl) (fun _ _ _ h => h) (Or.inl ⟨by rfl, ?_⟩) (by assumption) ?_; rotate_left; (· (intro w hSw; obtain ⟨c0, c1⟩ := hSw; go_simp; try with_reducible rfl)); (try simp only [zl1, zl2, zl3, Act.put, zl4, zl5, zl6]))
    (refine wpAnyH_take (i := 3) (v := ?_) rfl (by kernel_rfl) (by kernel_rfl) (by kernel_rfl) (fun _ _ _ h => h) (Or.inl ⟨by rfl, ?_⟩) (by assumption) ?_; rotate_left; (· (intro w hSw; obtain ⟨c0, c1⟩ := hSw; go_simp; try with_reducible rfl)); (try simp only [zl1, zl2, zl3, Act.put, zl4, zl5, zl6]))
    (refine wpAnyH_take (i := 4) (v := ?_) rfl (by kernel_rfl) (by kernel_rfl) (by kernel_rfl) (fun _ _ _ h => h) (Or.inl ⟨by rfl, ?_⟩) (by assumption) ?_; rotate_left; (· (intro w hSw; obtain ⟨c0, c1⟩ := hSw; go_simp; try with_reducible rfl)); (try simp only [zl1, zl2, zl3, Act.put, zl4, zl5, zl6]))
    refine wpAnyH_take (i := 5) (v := ?_) rfl (by kernel_rfl) (by kernel_rfl) (by kernel_rfl) (fun _ _ _ h => h) (Or.inl ⟨by rfl, ?_⟩) (by assumption) ?_; rotate_left
    · intro w hSw
      obtain ⟨c0, c1⟩ := hSw
      obtain ⟨g0, g1, g2, g3, g4, g5, g6, g7, g8⟩ := c1.cells
      simp only at g0 g1 g2 g3 g4 g5 g6 g7 g8
      go_simp
      try with_reducible rfl
    (try simp only [zl1, zl2, zl3, Act.put, zl4, zl5, zl6])
    refine wpAnyH_ready (rs := [6]) (by kernel_rfl) (by simp) (AllReadyH.cons rfl (fun K hK => ?_) AllReadyH.nil)
    go_simp
    refine (HPL.out _).mono ?_
    rintro e wq ⟨rfl, hbc⟩
    replace HBC := Lib.hid (HBC.out.drew.trans (hbc.mono HBC.out.size))
    refine hK.out _ _ (keepX hz HSQ.out HBC.out) (fun _ => ?_)
    clear hK K hS0 hbc
    (try simp only [zl1, zl2, zl3, Act.put, zl4, zl5, zl6])
    refine wpAnyH_ready (rs := [7]) (by kernel_rfl) (by simp) (AllReadyH.cons rfl (fun K hK => ?_) AllReadyH.nil)
    go_simp
    refine (HHA.out _ (HB1.out.trans (HBC.out.mono HB1.out.size))).mono ?_
    rintro e w2 ⟨rfl, hbc⟩
    replace HBC := Lib.hid (HBC.out.trans (hbc.mono HBC.out.size))
    refine hK.out _ _ (keepX hz HSQ.out HBC.out) (fun hS2 => ?_)
    clear hK K hbc
    (try simp only [zl1, zl2, zl3, Act.put, zl4, zl5, zl6])
    (refine wpAnyH_take (i := 8) (v := ?_) rfl (by kernel_rfl) (by kernel_rfl) (by kernel_rfl) (fun _ _ _ h => h) (Or.inl ⟨by rfl, ?_⟩) (by assumption) ?_; rotate_left; (· (intro w hSw; obtain ⟨c0, c1⟩ := hSw; go_simp; try with_reducible rfl)); (try simp only [zl1, zl2, zl3, Act.put, zl4, zl5, zl6]))
    (refine wpAnyH_take (i := 9) (v := ?_) rfl (by kernel_rfl) (by kernel_rfl) (by kernel_rfl) (fun _ _ _ h => h) (Or.inl ⟨by rfl, ?_⟩) (by assumption) ?_; rotate_left; (· (intro w hSw; obtain ⟨c0, c1⟩ := hSw; go_simp; try with_reducible rfl)); (try simp only [zl1, zl2, zl3, Act.put, zl4, zl5, zl6]))
    (refine wpAnyH_take (i := 10) (v := ?_) rfl (by kernel_rfl) (by kernel_rfl) (by kernel_rfl) (fun _ _ _ h => h) (Or.inl ⟨by rfl, ?_⟩) (by assumption) ?_; rotate_left; (· (intro w hSw; obtain ⟨c0, c1⟩ := hSw; go_simp; try with_reducible rfl)); (try simp only [zl1, zl2, zl3, Act.put, zl4, zl5, zl6]))
    refine wpAnyH_done (by kernel_rfl) ?_ _
    refine NoPanic.normal ?_
    go_wp2_with fail
    go_ret
    exact ⟨rfl, HB1.out.trans (HBC.out.mono HB1.out.size)⟩
  · have HME := Lib.hid (metB_none h2)
    rw [HME.out]
    have HFE := Lib.hid (show (f (.string q.1.data.toList)).getD zeroR = zeroR by rw [h1]; rfl)
    have HFS := Lib.hid (show (f (.string q.1.data.toList)).isSome = false by rw [h1]; rfl)
    unfold zeroR at HFE
    clear hm h1 h2
    go_enter Tryz.func121, Tryz.ntmps121
    go_wp2_with (at_lookup; refine wpList_look_ok_F rfl _ _ 157 rfl 9 71 lawStr Tryz.underlying157 (HZR.out _) m n f (by rfl) HMF.out _ (.string q.1.data.toList) rfl HKY.out ?_; unfold zeroR; rw [HFE.out, HFS.out])
    go_quiet (fail)
    go_wp2_with fail
    go_ret
    exact ⟨rfl, below_drewNV (by repeat (first | exact Below.refl _ _ | refine Below.drew ?_ | refine Below.alloc ?_ (by simp <;> omega) _ | refine Below.setCell ?_ (by simp <;> omega) _)) _⟩
end Go.Proofs.YtbbnoloploklkaaGreatDoor

namespace Go.Proofs.YtbbnoloploklkaaGreatDoor
set_option linter.unusedVariables false
set_option linter.unusedSimpArgs false
open Go Go.RowKit Go.Maps

theorem SelF.start (G : RelL → Value → Prop) : SelF G [] (fun _ => none) := fun _ => .inr ⟨rfl, fun _ h => by cases h⟩
theorem SelF.put {G : RelL → Value → Prop} {s : List SelL} {f : Lit → Option Value} {k : Nat} (h : SelF G (s.take k) f) (hk : k < s.length) {x : RelL} {r : Value} (hx : keyL x = s.getD k default) (hg : G x r) :
    SelF G (s.take (k + 1)) (putF f (.string x.path.data.toList) (.agg (relC x r))) := by
  have hs : s.take (k + 1) = s.take k ++ [keyL x] := by
    rw [hx, List.take_succ_eq_append_getElem hk, List.getD_eq_getElem?_getD, List.getElem?_eq_getElem hk]; rfl
  intro p
  rw [hs]
  by_cases e : x.path = p
  · refine .inl ⟨x, r, by simp, e, hg, ?_⟩
    subst e
    simp [putF]
  · have hne : ¬ (Lit.string p.data.toList = Lit.string x.path.data.toList) := fun h => by
      injection h with h
      exact e (ByteArray.ext (Array.toList_inj.1 h.symm))
    rcases h p with ⟨x2, r2, h1, h2, h3, h4⟩ | ⟨h1, h2⟩
    · refine .inl ⟨x2, r2, by simp [h1], h2, h3, ?_⟩
      unfold putF
      rw [if_neg hne, h4]
    · refine .inr ⟨?_, fun y hy => ?_⟩
      · unfold putF
        rw [if_neg hne, h1]
      · rcases List.mem_append.1 hy with hy | hy
        · exact h2 y hy
        · rw [List.mem_singleton.1 hy]; exact e
theorem valid_of_check {X : List RelL} (h : checkX X = 0) {x : RelL} (hx : x ∈ X) : validB x.ver.1 x.ver.2.1 x.ver.2.2 = true := by
  obtain ⟨k, hk, rfl⟩ := List.mem_iff_getElem.1 hx
  unfold checkX at h
  split at h
  · exact absurd h (by decide)
  · have h1 := firstE_zero h k hk
    unfold idxErr at h1
    have h2 : relE (X.getD k default) = 0 := by
      by_cases e : relE (X.getD k default) = 0
      · exact e
      · rw [if_pos e] at h1; exact absurd h1 e
    rw [List.getD_eq_getElem?_getD, List.getElem?_eq_getElem hk] at h2
    simp only [Option.getD_some] at h2
    unfold relE at h2
    split at h2
    · exact absurd h2 (by decide)
    · split at h2
      · exact absurd h2 (by decide)
      · rename_i h3
        have h3 : ¬ (validB X[k].ver.1 X[k].ver.2.1 X[k].ver.2.2 && _) = false := h3
        rw [Bool.not_eq_false, Bool.and_eq_true] at h3
        exact h3.1
theorem broken_pred (G : RelL → Value → Prop) (hG : ∀ x r, G x r → ∃ a n c, r = .slice a n c) (s : List SelL) (f : Lit → Option Value) (hn : (s.map (·.1)).Nodup) (hv : ∀ y ∈ s, validB y.2.1 y.2.2.1 y.2.2.2 = true) (hF : SelF G s f) (es : List ReqL) (m n c : Nat) (w : World)
    (hq : ∀ q ∈ es, q.1.size ≤ 1000000 ∧ q.2.length ≤ 1000000) (hm : MapF Tryz.prog 9 w m n f) (hc : w.cell? ⟨c, 0, none⟩ = some (.map (some m))) :
    PredQ 121 #[.pointer (some ⟨c, 0, none⟩)] es (fun q => !metB s q) w := by
  intro W x r hx hb hS
  have hlt := World.block_lt_of_cell? _ _ hc
  simp only at hlt
  refine (broken_any G hG s f hn hv hF x r m n c W (hq x hx).1 (by have := (hq x hx).2; omega) hS (hm.below hb) ((hb.cell (p := ⟨c, 0, none⟩) hlt).trans hc)).mono ?_
  rintro e w' ⟨rfl, h⟩
  exact ⟨rfl, hb.trans (h.mono hb.size)⟩
theorem all_met {s : List SelL} {es : List ReqL} (h : es.any (fun q => !metB s q) = false) : ∀ q ∈ es, metB s q = true := fun q hq => by
  rw [List.any_eq_false] at h
  have := h q hq
  simpa using this
end Go.Proofs.YtbbnoloploklkaaGreatDoor

namespace Go.Proofs.YtbbnoloploklkaaGreatDoor
set_option linter.unusedVariables false
set_option linter.unusedSimpArgs false
open Go Go.RowKit Go.Maps

theorem relXs_at : ∀ {l : List RelL} {rs : List Value}, rs.length = l.length → ∀ {i j : Nat}, i < l.length → j < 9 → (relXs l rs)[i * 9 + j]? = (relC (l.getD i default) (rs.getD i undef)).toList[j]?
  | x :: l, r :: rs, h, 0, j, hi, hj => by
    unfold relXs
    rw [List.zip_cons_cons, List.flatMap_cons, Nat.zero_mul, Nat.zero_add, List.getElem?_append_left (by simp [relC]; omega)]
    rfl
  | x :: l, r :: rs, h, i + 1, j, hi, hj => by
    have ih := relXs_at (l := l) (rs := rs) (by simpa using h) (i := i) (j := j) (by simpa using hi) hj
    unfold relXs at ih ⊢
    rw [List.zip_cons_cons, List.flatMap_cons, List.getElem?_append_right (by simp [relC]; omega), show (i + 1) * 9 + j - (relC x r).toList.length = i * 9 + j by simp [relC]; omega, ih]
    rfl
theorem own_rels {W : World} {B B2 : Nat} {v : Value} {l : List RelL} {rs : List Value} (hrl : rs.length = l.length) (h : W.ownsRow B 71 9 v l.length (relXs l rs)) (hB : B2 ≤ W.heap.size)
    (he : ∀ i, i < l.length → ReqsOf B2 (rs.getD i undef) (l.getD i default).reqs W) : RelsOf W.heap.size v l W := by
  have hxl := relXs_length hrl
  have hat := @relXs_at l rs hrl
  generalize relXs l rs = xs at *
  obtain ⟨hl, ⟨rfl, h0⟩ | ⟨g, cap, cur, rfl, h1, h2, h3, h4, h5, h6⟩⟩ := h
  · obtain rfl := List.length_eq_zero_iff.1 h0
    exact ⟨none, 0, rfl, fun i q hq => by simp at hq⟩
  · refine ⟨_, cap, rfl, fun i q hq => ?_⟩
    have hi := (List.getElem?_eq_some_iff.1 hq).1
    have hqd : l.getD i default = q := by rw [List.getD_eq_getElem?_getD, hq]; rfl
    have key : ∀ j u, j < 9 → (relC q (rs.getD i undef)).toList[j]? = some u → W.cell? ⟨g, 0 + i * 9 + j, none⟩ = some u := fun j u hj hu => by
      have hu2 := hat hi hj
      rw [hqd, hu] at hu2
      have hj2 := (List.getElem?_eq_some_iff.1 hu2).1
      rw [cell_of_row _ _ _ _ _ _ h2, ← hu2, ← h6, List.getElem?_take, if_pos (by omega)]
      simp
    refine ⟨g, 0, rfl, (Array.getElem?_eq_some_iff.1 h2).1, rs.getD i undef, key 0 _ (by omega) rfl, key 1 _ (by omega) rfl, key 2 _ (by omega) rfl, key 3 _ (by omega) rfl, key 4 _ (by omega) rfl, key 5 _ (by omega) rfl, key 6 _ (by omega) rfl, key 7 _ (by omega) rfl, key 8 _ (by omega) rfl, ?_⟩
    have := he i hi
    rw [hqd] at this
    exact this.mono hB
end Go.Proofs.YtbbnoloploklkaaGreatDoor

namespace Go.Proofs.YtbbnoloploklkaaGreatDoor
set_option linter.unusedVariables false
set_option linter.unusedSimpArgs false
open Go Go.RowKit Go.Maps

theorem pick_at {X : List RelL} {s : List SelL} (hc : checkX X = 0) (hfo : ∀ y ∈ s, (findX X y).isSome = true) {k : Nat} (h : k < s.length) :
    ∃ x, (pickK X s s.length)[k]? = some x ∧ findR X (s.getD k default) = some x ∧ x ∈ X ∧ keyL x = s.getD k default ∧ reqsOf X (s.getD k default) = x.reqs := by
  have hm : s.getD k default ∈ s := by rw [List.getD_eq_getElem?_getD, List.getElem?_eq_getElem h]; exact List.getElem_mem h
  obtain ⟨x, hx⟩ := Option.isSome_iff_exists.1 (hfo _ hm)
  have hf : findR X (s.getD k default) = some x := by
    unfold findX at hx
    rwa [if_pos hc] at hx
  refine ⟨x, ?_, hf, ?_, ?_, ?_⟩
  · unfold pickK
    rw [List.take_length, List.getElem?_map, List.getElem?_eq_getElem h]
    rw [List.getD_eq_getElem?_getD, List.getElem?_eq_getElem h] at hx
    simp only [Option.map_some, Option.getD_some] at hx ⊢
    rw [hx]
    rfl
  · unfold findR at hf
    exact List.mem_of_find?_eq_some hf
  · unfold findR at hf
    have := List.find?_some hf
    simpa using this
  · unfold reqsOf
    rw [hf]
def PathXs (l : List ReqL) (xs : List Value) : Prop := ∀ i q, l[i]? = some q → xs[i * 2]? = some (.string q.1) ∧ ∃ a n c, xs[i * 2 + 1]? = some (.slice a n c)
theorem ReqXs.paths {B : Nat} {l : List ReqL} {xs : List Value} {W : World} (h : ReqXs B l xs W) : PathXs l xs := fun i q hq => by
  obtain ⟨r, h1, h2, a, c, rfl, _⟩ := h i q hq
  exact ⟨h1, _, _, _, h2⟩
theorem PathXs.tail {q : ReqL} {l : List ReqL} {xs : List Value} (h : PathXs (q :: l) xs) : PathXs l (xs.drop 2) := fun i x hx => by
  have := h (i + 1) x (by simpa using hx)
  rw [List.getElem?_drop, List.getElem?_drop, show 2 + i * 2 = (i + 1) * 2 by omega, show 2 + (i * 2 + 1) = (i + 1) * 2 + 1 by omega]
  exact this
theorem PathXs.app {l m : List ReqL} {xs ys : List Value} (h : PathXs l xs) (hl : xs.length = l.length * 2) (h2 : PathXs m ys) : PathXs (l ++ m) (xs ++ ys) := fun i x hx => by
  by_cases hi : i < l.length
  · rw [List.getElem?_append_left hi] at hx
    obtain ⟨g1, a, n, c, g2⟩ := h i x hx
    rw [List.getElem?_append_left (by omega), List.getElem?_append_left (by omega)]
    exact ⟨g1, a, n, c, g2⟩
  · rw [List.getElem?_append_right (by omega)] at hx
    obtain ⟨g1, a, n, c, g2⟩ := h2 (i - l.length) x hx
    rw [List.getElem?_append_right (by omega), List.getElem?_append_right (by omega), show i * 2 - xs.length = (i - l.length) * 2 by omega, show i * 2 + 1 - xs.length = (i - l.length) * 2 + 1 by omega]
    exact ⟨g1, a, n, c, g2⟩
theorem reqs_src {B : Nat} {l : List ReqL} {W : World} {v : Value} (h : ReqsOf B v l W) : ∃ news, Src Tryz.prog 2 26 v l.length news W ∧ PathXs l news := by
  have h2 := h
  obtain ⟨ao, cap, rfl, hh⟩ := h
  by_cases h0 : l = []
  · subst h0
    cases ao with
    | none => exact ⟨[], Src.ofNil _ Tryz.underlying26 cap, fun i q hq => by cases hq⟩
    | some a => exact ⟨[], Src.ofSlice _ Tryz.underlying26 a 0 cap [] rfl (fun j u hu => by simp at hu) (fun _ h => by cases h), fun i q hq => by cases hq⟩
  · have hp : 0 < l.length := List.length_pos_iff.2 h0
    obtain ⟨b, off, _, rfl, _⟩ := hh 0 l[0] (by simp [hp])
    obtain ⟨xs, hx1, hx2, hx3⟩ := reqs_cells h2
    refine ⟨xs, Src.ofSlice _ Tryz.underlying26 ⟨b, off, none⟩ l.length cap xs hx1 (fun j u hu => by rw [Addr.add_lit]; exact hx2 j u hu) (fun u hu => ?_), fun i q hq => ?_⟩
    · obtain ⟨j, hj, rfl⟩ := List.mem_iff_getElem.1 hu
      obtain ⟨r, h1, h2, h3⟩ := hx3 (j / 2) l[j / 2] (by simp <;> omega)
      obtain ⟨_, _, rfl, _⟩ := h3
      rcases Nat.mod_two_eq_zero_or_one j with hm | hm
      · have e2 : j / 2 * 2 = j := by omega
        rw [e2, List.getElem?_eq_getElem hj] at h1
        rw [Option.some.inj h1]; rfl
      · have e2 : j / 2 * 2 + 1 = j := by omega
        rw [e2, List.getElem?_eq_getElem hj] at h2
        rw [Option.some.inj h2]; rfl
    · obtain ⟨r, h1, h2, a, c, rfl, _⟩ := hx3 i q hq
      exact ⟨h1, _, _, _, h2⟩
noncomputable def mapLen (P : Program) (k : TypeId) (W : World) (b : Nat) : Nat :=
  match W.heap[b]? with
  | some (.map es _) => Maps.size (DataW.map ((es.toList.map (WideElems.rg P k RV)).foldr DataW.insert []))
  | _ => 0
theorem mapLen_of {P : Program} {k : TypeId} {W : World} {b n : Nat} {f : Lit → Option Value} (K : Keyed P k) (h : MapF P k W b n f) (ks : List Lit) (hn : ks.Nodup) (hk : ∀ q, q ∈ ks ↔ (f q).isSome = true) : mapLen P k W b = ks.length := by
  obtain ⟨D, h1, h2, h3, h4⟩ := h
  have hs := size_of_keys (h1.canon K) h3 ks hn hk
  obtain ⟨es, clock, e1, _, _, rfl⟩ := h1
  unfold mapLen
  rw [e1]
  exact hs
def keyP (p : ByteArray) : Lit := .string p.data.toList
theorem keyP_inj {p q : ByteArray} (h : keyP p = keyP q) : p = q := by
  unfold keyP at h
  injection h with h
  exact ByteArray.ext (Array.toList_inj.1 h)
def SeenF (seen : List ByteArray) (f : Lit → Option Value) : Prop := (∀ p ∈ seen, f (keyP p) = some (.bool true)) ∧ ∀ q, (∀ p ∈ seen, keyP p ≠ q) → f q = none
theorem SeenF.start : SeenF [] (fun _ => none) := ⟨fun p hp => (by cases hp), fun _ _ => rfl⟩
theorem SeenF.put {seen : List ByteArray} {f : Lit → Option Value} (h : SeenF seen f) (p : ByteArray) : SeenF (p :: seen) (putF f (.string p.data.toList) (.bool true)) := by
  refine ⟨fun r hr => ?_, fun q hq => ?_⟩
  · by_cases e : keyP r = .string p.data.toList
    · rw [e, putF_same]
    · rw [putF_other _ _ e]
      rcases List.mem_cons.1 hr with rfl | hr
      · exact absurd rfl e
      · exact h.1 r hr
  · have e : q ≠ .string p.data.toList := fun e => hq p (by simp) e.symm
    rw [putF_other _ _ e]
    exact h.2 q fun r hr => hq r (by simp [hr])
theorem SeenF.look {seen : List ByteArray} {f : Lit → Option Value} (h : SeenF seen f) (p : ByteArray) : ∃ sb : Bool, (f (.string p.data.toList)).getD (.bool false) = .bool sb ∧ (sb = true ↔ p ∈ seen) := by
  by_cases e : p ∈ seen
  · exact ⟨true, by rw [show Lit.string p.data.toList = keyP p from rfl, h.1 p e]; rfl, by simp [e]⟩
  · have h2 := h.2 (.string p.data.toList) fun r hr e2 => e (keyP_inj (p := r) (q := p) e2 ▸ hr)
    exact ⟨false, by rw [h2]; rfl, by simp [e]⟩
theorem SeenF.keys {seen : List ByteArray} {f : Lit → Option Value} (h : SeenF seen f) : ∀ q, q ∈ seen.map keyP ↔ (f q).isSome = true := fun q => by
  by_cases e : q ∈ seen.map keyP
  · obtain ⟨p, hp, rfl⟩ := List.mem_map.1 e
    rw [h.1 p hp]
    exact ⟨fun _ => rfl, fun _ => e⟩
  · rw [h.2 q fun p hp e2 => e (List.mem_map.2 ⟨p, hp, e2⟩)]
    exact ⟨fun h => absurd h e, fun h => by cases h⟩
theorem seen_nodup {seen : List ByteArray} (h : seen.Nodup) : (seen.map keyP).Nodup := by
  unfold List.Nodup at h ⊢
  rw [List.pairwise_map]
  exact h.imp fun {a b} hab e => hab (keyP_inj e)
theorem SeenF.size {P : Program} {k : TypeId} {W : World} {b n : Nat} {seen : List ByteArray} {f : Lit → Option Value} (K : Keyed P k) (h : SeenF seen f) (hm : MapF P k W b n f) (hn : seen.Nodup) : mapLen P k W b = seen.length := by
  rw [mapLen_of K hm _ (seen_nodup hn) h.keys, List.length_map]
theorem field_reqs (x : RelL) (r : Value) (w : World) : (Instr.field 71 (.agg #[.string x.path, intC x.ver.1, intC x.ver.2.1, intC x.ver.2.2, r, .string x.ar, .string x.ifc, .string x.cert, .bool x.yk]) 2).run Tryz.prog w = .ok r w := by
  have hu := Tryz.underlying71
  simp [Instr.field, run_underlying hu]
  go_simp
  simp [asAgg]
def sliceN : Value → Nat
  | .slice _ n _ => n
  | _ => 0
end Go.Proofs.YtbbnoloploklkaaGreatDoor

namespace Go.Proofs.YtbbnoloploklkaaGreatDoor
set_option linter.unusedVariables false
set_option linter.unusedSimpArgs false
open Go Go.RowKit Go.Maps

def SolveR (w : World) (X : List RelL) (roots : List ReqL) (s : List SelL) (e : Ending) (w' : World) : Prop :=
  Below w.heap.size w w' ∧ ∃ E, e = .returned (.int .i64 E) ∧ ((E = 0 ∨ E = 8) ↔ SatP X roots s) ∧ (E = 0 → ∀ y ∈ s, Need X roots s y.1)
theorem SolveR.no {w w' : World} {X : List RelL} {roots : List ReqL} {s : List SelL} {E : Int} (hb : Below w.heap.size w w') (h0 : E ≠ 0) (h8 : E ≠ 8) (hn : ¬ SatP X roots s) : SolveR w X roots s (.returned (.int .i64 E)) w' :=
  ⟨hb, E, rfl, ⟨fun h => h.elim (fun h => absurd h h0) (fun h => absurd h h8), fun h => absurd h hn⟩, fun h => absurd h h0⟩
set_option maxRecDepth 100000 in
set_option maxHeartbeats 8000000 in
theorem Solves_any (v iv rov sv : Value) (X : List RelL) (roots : List ReqL) (s : List SelL) (w : World) (hm : MaxOk w) (hX : X.length ≤ 1000000) (hq : ∀ x ∈ X, RelBd x) (hR : RelsOf w.heap.size v X w)
    (hro : roots.length ≤ 1000000) (hrq : ∀ q ∈ roots, q.1.size ≤ 1000000 ∧ q.2.length ≤ 1000000) (hRo : ReqsOf w.heap.size rov roots w) (hs : s.length ≤ 1000000) (hy : ∀ y ∈ s, SelBd y) (hS : SelsOf w.heap.size sv s w) :
    Calls Tryz.prog 53 #[.agg #[v, iv], rov, sv] w (SolveR w X roots s) := by
  have HN := Lib.hid (fun W (hb : RowKit.Below w.heap.size w W) => newTable_any v iv X W (hm.below hb hm.pos) hX hq ((hR.below hb (Nat.le_refl _)).mono hb.size))
  have HRo := Lib.hid hRo
  have HS := Lib.hid hS
  obtain ⟨ra, rc, rfl⟩ : ∃ ra rc, rov = .slice ra roots.length rc := by obtain ⟨a, c, e, _⟩ := hRo; exact ⟨a, c, e⟩
  obtain ⟨sa, sc, rfl⟩ : ∃ sa sc, sv = .slice sa s.length sc := by obtain ⟨a, c, e, _⟩ := hS; exact ⟨a, c, e⟩
  obtain ⟨va, vn, vc, rfl⟩ : ∃ a n c, v = .slice a n c := by obtain ⟨a, c, _, e, _⟩ := hR.rv; exact ⟨_, _, _, e⟩
  clear hm hR hRo hS
  have HB0 : Hid (Below w.heap.size w (w.alloc (.cells #[.slice va vn vc, iv] 25))) := Lib.hid (belQ _ _)
  have HI0 : Hid ((w.alloc (.cells #[.slice va vn vc, iv] 25)).heap[w.heap.size]? = some (.cells #[.slice va vn vc, iv] 25 (0, 0))) := Lib.hid (World.alloc_heap_new w _)
  have hw0 : w.heap.size < (w.alloc (.cells #[.slice va vn vc, iv] 25)).heap.size := by simp
  go_enter Tryz.func53, Tryz.ntmps53
  go_upto_region 1 with fail
  generalize w.alloc (.cells #[.slice va vn vc, iv] 25) = W at *
  have c0 : W.cell? ⟨w.heap.size, 0, none⟩ = some (.slice va vn vc) := cell_of_row _ _ 0 _ _ _ HI0.out
  have c1 : W.cell? ⟨w.heap.size, 1, none⟩ = some iv := cell_of_row _ _ 1 _ _ _ HI0.out
  go_wp2_with fail
  refine (HN.out _ HB0.out).mono ?_
  rintro e w1 ⟨m1, m2, rfl, hb1, hm1, ht1⟩
  have HB1 := Lib.hid (HB0.out.trans (hb1.mono HB0.out.size))
  have hs1 := hb1.size
  have HT1 : Hid (TabOf w1 W.heap.size m1 (tabX X)) := Lib.hid ht1
  obtain ⟨cx, hcx⟩ : ∃ cx, checkX X = cx := ⟨_, rfl⟩
  rw [hcx]
  have HCX := Lib.hid hcx
  clear hb1 ht1 c0 c1 hcx
  by_cases h1 : cx = 0
  case neg =>
    have h1b : (cx != 0) = true := by simpa using h1
    have HBF := Lib.hid (HB1.out.trans ((belQ w1 (.cells #[.map (some m1), .map (some m2)] 144)).mono HB1.out.size))
    go_wp2_with fail
    go_ret
    exact SolveR.no HBF.out (by decide) (by decide) (fun h => h1 (HCX.out.symm.trans h.ok))
  subst h1
  have HT2 := Lib.hid (HT1.out.below (belQ w1 (.cells #[.map (some m1), .map (some m2)] 144)) hs1)
  have HB2 := Lib.hid (HB1.out.trans ((belQ w1 (.cells #[.map (some m1), .map (some m2)] 144)).mono HB1.out.size))
  go_upto_region 4 with fail
  have HN2 := Lib.hid (World.alloc_heap_new w1 (.cells #[.map (some m1), .map (some m2)] 144))
  have hs2 : w1.heap.size < (w1.alloc (.cells #[.map (some m1), .map (some m2)] 144)).heap.size := by simp
  generalize hW2 : w1.alloc (.cells #[.map (some m1), .map (some m2)] 144) = W2 at *
  have t0 : W2.cell? ⟨w1.heap.size, 0, none⟩ = some (.map (some m1)) := cell_of_row _ _ 0 _ _ _ HN2.out
  have t1 : W2.cell? ⟨w1.heap.size, 1, none⟩ = some (.map (some m2)) := cell_of_row _ _ 1 _ _ _ HN2.out
  go_wp2_with fail
  refine (selected_any m1 m2 _ X W.heap.size s W2 (by omega) HT2.out hs hy ((HS.out.below HB2.out (Nat.le_refl _)).mono HB2.out.size)).mono ?_
  rintro e w3 ⟨hb3, h3⟩
  have HB3 := Lib.hid (HB2.out.trans (hb3.mono HB2.out.size))
  have hw3 : W.heap.size ≤ w3.heap.size := by have := hb3.size; omega
  clear hb3 t0 t1
  rcases h3 with ⟨hn, rfl⟩ | ⟨hi, ⟨y, hy1, hy2⟩, rfl⟩ | ⟨hi, hfo, v3, rs, rfl, hrl, how, hrq3⟩
  · go_wp2_with fail
    go_ret
    exact SolveR.no HB3.out (by decide) (by decide) (fun h => hn h.incr)
  · have HNO := Lib.hid (show ¬ SatP X roots s from fun h => by
      have := h.found y hy1
      unfold findX at hy2
      rw [if_pos HCX.out] at hy2
      rw [hy2] at this
      cases this)
    go_wp2_with fail
    go_ret
    exact SolveR.no HB3.out (by decide) (by decide) HNO.out
  have HIN := Lib.hid hi
  have HFO := Lib.hid hfo
  have HRL := Lib.hid hrl
  have HOW := Lib.hid how
  have HRQ3 := Lib.hid hrq3
  clear hi hfo hrl how hrq3
  have hs3 := HB3.out.size
  have hpk : (pickK X s s.length).length = s.length := pickK_length (Nat.le_refl _)
  have HRX : Hid (RelsOf w3.heap.size v3 (pickK X s s.length) w3) := Lib.hid (own_rels (B := W2.heap.size) (B2 := W.heap.size) (HRL.out.trans hpk.symm) (by rw [hpk]; exact HOW.out) hw3 (by rw [hpk]; exact HRQ3.out))
  obtain ⟨xo, xc, hv3⟩ : ∃ xo xc, v3 = .slice xo s.length xc := by obtain ⟨a, c, e, _⟩ := HRX.out; exact ⟨a, c, by rw [e, hpk]⟩
  subst hv3
  clear hpk
  have HM4 := Lib.hid ((MapF.made Tryz.prog 9 w3).alloc (.cells #[.map (some w3.heap.size)] 157))
  have HC4 : Hid (((w3.alloc (.map #[] 0)).alloc (.cells #[.map (some w3.heap.size)] 157)).heap[w3.heap.size + 1]? = some (.cells #[.map (some w3.heap.size)] 157 (0, 0))) := Lib.hid (by
    have := World.alloc_heap_new (w3.alloc (.map #[] 0)) (.cells #[.map (some w3.heap.size)] 157)
    rwa [World.size_alloc] at this)
  have HB43 : Hid (Below w3.heap.size w3 ((w3.alloc (.map #[] 0)).alloc (.cells #[.map (some w3.heap.size)] 157))) := Lib.hid (by repeat (first | exact Below.refl _ _ | refine Below.drew ?_ | refine Below.alloc ?_ (by simp <;> omega) _ | refine Below.setCell ?_ (by simp <;> omega) _))
  have hmm := @run_makeMap Tryz.prog
  go_wp2_with fail
  go_upto_region 8 with fail
  generalize hW4 : (w3.alloc (.map #[] 0)).alloc (.cells #[.map (some w3.heap.size)] 157) = W4 at *
  clear hW4
  obtain ⟨G, hG⟩ : ∃ G : RelL → Value → Prop, (fun x r => x ∈ X ∧ ReqsOf w3.heap.size r x.reqs w3) = G := ⟨_, rfl⟩
  have HG := Lib.hid hG
  clear hG hmm
  go_wp2_with fail
  go_loopw [38] (fun p wr => ∃ k : Nat, k ≤ s.length ∧ p = .int .i64 k ∧ Hid (∃ f, MapF Tryz.prog 9 wr w3.heap.size k f ∧ SelF G (s.take k) f) ∧ Hid (Below w3.heap.size w3 wr) ∧ Hid (wr.heap[w3.heap.size + 1]? = some (.cells #[.map (some w3.heap.size)] 157 (0, 0)))) (fun p _ => s.length - (intOf p).toNat)
  case atStart => exact ⟨0, Nat.zero_le _, rfl, Lib.hid ⟨_, HM4.out, SelF.start G⟩, HB43, HC4⟩
  case round =>
    obtain ⟨k, hk, rfl, HF, HB, HC⟩ := hrel
    by_cases hlt : k < s.length
    case neg =>
      have hk2 : k = s.length := by omega
      subst hk2
      obtain ⟨wA, rfl⟩ : ∃ wA : World, wA = wr := ⟨_, rfl⟩
      obtain ⟨f, hf, hsf⟩ := HF.out
      rw [List.take_length] at hsf
      have HMF := Lib.hid hf
      have HSF := Lib.hid hsf
      clear HF hf hsf
      have HNO := Lib.hid (incrS_nodup HIN.out)
      have HVA : Hid (∀ y ∈ s, validB y.2.1 y.2.2.1 y.2.2.2 = true) := Lib.hid (fun y hy => by
        obtain ⟨x, hx⟩ := Option.isSome_iff_exists.1 (HFO.out y hy)
        unfold findX at hx
        rw [if_pos HCX.out] at hx
        unfold findR at hx
        have h1 := valid_of_check HCX.out (List.mem_of_find?_eq_some hx)
        have h2 : keyL x = y := by have := List.find?_some hx; simpa using this
        rw [← h2]
        exact h1)
      have HGS : Hid (∀ x r, G x r → ∃ a n c, r = .slice a n c) := Lib.hid (fun x r h => by
        rw [← HG.out] at h
        obtain ⟨_, a, c, e, _⟩ := h
        exact ⟨a, _, c, e⟩)
      have hcl : w3.heap.size + 1 < wA.heap.size := (Array.getElem?_eq_some_iff.1 HC.out).1
      have HHAS : Hid (∀ (v : Value) (es : List ReqL) (W : World), es.length ≤ 1000000 → (∀ q ∈ es, q.1.size ≤ 1000000 ∧ q.2.length ≤ 1000000) → Below wA.heap.size wA W → ReqsOf W.heap.size v es W →
          Calls Tryz.prog 34 #[v, .func (.func 121) #[] #[.pointer (some ⟨w3.heap.size + 1, 0, none⟩)]] W fun e w' => e = .returned (.bool (es.any fun q => !metB s q)) ∧ Below W.heap.size W w') :=
        Lib.hid (fun v es W hl hq hb hE => has_req 121 _ (enters_of Tryz.func121 (by kernel_rfl) rfl) _ v es W (by omega) hE
          (broken_pred G HGS.out s f HNO.out HVA.out HSF.out es w3.heap.size s.length (w3.heap.size + 1) W hq (HMF.out.below hb) (cell_of_row _ _ 0 _ _ _ ((hb.block _ hcl).trans HC.out))))
      have hwr : w3.heap.size ≤ wA.heap.size := HB.out.size
      go_wp2_with fail
      go_loopw [50] (fun p wr2 => ∃ k : Nat, k ≤ s.length ∧ p = .int .i64 k ∧ Hid (∀ j, j < k → ∀ q ∈ reqsOf X (s.getD j default), metB s q = true) ∧ Hid (Below wA.heap.size wA wr2)) (fun p _ => s.length - (intOf p).toNat)
      case atStart => exact ⟨0, Nat.zero_le _, rfl, Lib.hid (fun j hj => absurd hj (Nat.not_lt_zero _)), Lib.hid (Below.refl _ _)⟩
      case round =>
        obtain ⟨k, hk, rfl, HMT, HB2⟩ := hrel
        have hs2 := HB2.out.size
        by_cases hlt2 : k < s.length
        case neg =>
          have hk3 : k = s.length := by omega
          subst hk3
          obtain ⟨wr2, rfl⟩ : ∃ wr2 : World, wr2 = wr := ⟨_, rfl⟩
          have HOWN : Hid (∀ y ∈ s, ∀ q ∈ reqsOf X y, metB s q = true) := Lib.hid (fun y hy => by
            obtain ⟨j, hj, rfl⟩ := List.mem_iff_getElem.1 hy
            have := HMT.out j hj
            rwa [List.getD_eq_getElem?_getD, List.getElem?_eq_getElem hj] at this)
          have HBW := Lib.hid (HB3.out.trans ((HB.out.trans (HB2.out.mono hwr)).mono hs3))
          have HRO2 := Lib.hid ((HRo.out.below HBW.out (Nat.le_refl _)).mono HBW.out.size)
          obtain ⟨bb, hbb⟩ : ∃ bb, (roots.any fun q => !metB s q) = bb := ⟨_, rfl⟩
          have HBBB := Lib.hid hbb
          clear hbb
          go_wp2_with fail
          refine (HHAS.out _ roots _ hro hrq HB2.out HRO2.out).mono ?_
          rintro e w5 ⟨rfl, hb5⟩
          rw [HBBB.out]
          have HB5 := Lib.hid (HB2.out.trans (hb5.mono HB2.out.size))
          have hs5 := HB5.out.size
          have HBW5 := Lib.hid (HB3.out.trans ((HB.out.trans (HB5.out.mono hwr)).mono hs3))
          clear hb5
          cases bb with
          | true =>
            have HNS : Hid (¬ SatP X roots s) := Lib.hid (fun h => by
              obtain ⟨q, hq1, hq2⟩ := List.any_eq_true.1 HBBB.out
              have := h.root q hq1
              rw [this] at hq2
              cases hq2)
            go_wp2_with fail
            go_ret
            exact SolveR.no HBW5.out (by decide) (by decide) HNS.out
          | false =>
            have HSAT : Hid (SatP X roots s) := Lib.hid ⟨HCX.out, HIN.out, fun y hy => by
              have := HFO.out y hy
              unfold findX at this
              rwa [if_pos HCX.out] at this, HOWN.out, all_met HBBB.out⟩
            have HM6 := Lib.hid (MapF.made Tryz.prog 9 w5)
            have HB56 : Hid (Below w5.heap.size w5 (w5.alloc (.map #[] 0))) := Lib.hid (belQ w5 _)
            have HBW6 := Lib.hid (HBW5.out.trans (HB56.out.mono HBW5.out.size))
            have HRO6 := Lib.hid ((HRo.out.below HBW6.out (Nat.le_refl _)).mono HBW6.out.size)
            have hmm := @run_makeMap Tryz.prog
            go_wp2_with fail
            refine (CloneQ_any (.slice ra roots.length rc) roots _ hro HRO6.out).mono ?_
            rintro e w7 ⟨v7, xs7, rfl, how, hrx, hb7⟩
            have HM7 := Lib.hid (HM6.out.below hb7)
            have HB57 := Lib.hid (HB56.out.trans (hb7.mono HB56.out.size))
            have HSG7 : Hid (SegC w7 (w5.heap.size + 1) 2 v7 roots.length xs7) := Lib.hid (by
              have := own_seg how (by omega)
              rwa [World.size_alloc] at this)
            have HPX7 := Lib.hid hrx.paths
            clear how hrx hb7 hmm
            obtain ⟨i0, hi0, hz0, hz1, hz2⟩ := info_parts info_reqs
            go_wp2_with fail
            go_loopw [17] (fun tv wr => Hid (∃ (seen : List ByteArray) (todo : List ReqL) (xs : List Value) (f2 : Lit → Option Value), NeedI X roots s seen todo ∧ SegC wr (w5.heap.size + 1) 2 tv todo.length xs ∧ PathXs todo xs ∧ MapF Tryz.prog 9 wr w5.heap.size seen.length f2 ∧ SeenF seen f2 ∧ todo.length + 17 * (s.length - seen.length) ≤ roots.length + 17 * s.length ∧ Below w5.heap.size w5 wr)) (fun tv wr => sliceN tv + 17 * (s.length - mapLen Tryz.prog 9 wr w5.heap.size))
            case atStart => exact Lib.hid ⟨[], roots, xs7, _, NeedI.start HSAT.out, HSG7.out, HPX7.out, HM7.out, SeenF.start, by simp, HB57.out⟩
            case round =>
              obtain ⟨seen, todo, xs, f2, hnd, hsg, hpx, hmf, hsf, hle, hbb⟩ := hrel.out
              have HND := Lib.hid hnd
              have HSG := Lib.hid hsg
              have HPX := Lib.hid hpx
              have HM8 := Lib.hid hmf
              have HSE := Lib.hid hsf
              have HLE := Lib.hid hle
              have HB58 := Lib.hid hbb
              have hsl := hnd.len
              have hs8 := hbb.size
              have hml : w5.heap.size < wr.heap.size := hmf.lt
              clear hrel hnd hsg hpx hmf hsf hle hbb
              have HBZ := Lib.hid (HBW5.out.trans (HB58.out.mono HBW5.out.size))
              cases todo with
              | nil =>
                obtain ⟨ta, tc, rfl⟩ := HSG.out.shape
                simp only [List.length_nil] at *
                by_cases hlast : seen.length < s.length
                · have hla : ((seen.length : Nat) : Int) < ((s.length : Nat) : Int) := by omega
                  go_wp2_with (at_len; refine wpList_len_F rfl _ 159 rfl 9 4 lawStr Tryz.underlying159 w5.heap.size seen.length f2 (by rfl) HM8.out (seen.map keyP) (seen_nodup HND.out.nodup) HSE.out.keys ?_; rw [List.length_map])
                  go_ret
                  exact ⟨HBZ.out, 8, rfl, ⟨fun _ => HSAT.out, fun _ => .inr rfl⟩, fun h => absurd h (by decide)⟩
                · have hla : ¬ ((seen.length : Nat) : Int) < ((s.length : Nat) : Int) := by omega
                  go_wp2_with (at_len; refine wpList_len_F rfl _ 159 rfl 9 4 lawStr Tryz.underlying159 w5.heap.size seen.length f2 (by rfl) HM8.out (seen.map keyP) (seen_nodup HND.out.nodup) HSE.out.keys ?_; rw [List.length_map])
                  go_ret
                  exact ⟨HBZ.out, 0, rfl, ⟨fun _ => HSAT.out, fun _ => .inl rfl⟩, fun _ => HND.out.all (by omega)⟩
              | cons q todo =>
                obtain ⟨qg, qo, qc, rfl, hcell, htail⟩ := SegC.head (n := todo.length) HSG.out
                obtain ⟨hp0, qra, qrn, qrc, hp1⟩ := HPX.out 0 q rfl
                have c0 : wr.cell? ⟨qg, qo, none⟩ = some (.string q.1) := (hcell 0 (by omega)).trans hp0
                have c1 : wr.cell? ⟨qg, qo + 1, none⟩ = some (.slice qra qrn qrc) := (hcell 1 (by omega)).trans hp1
                generalize hqa : (if qc = 0 then some (⟨qg, qo, none⟩ : Addr) else some ⟨qg, qo + 2, none⟩) = qa at htail
                have HTL := Lib.hid htail
                have HPT := Lib.hid HPX.out.tail
                have HQN := Lib.hid (HND.out.todo q (by simp))
                have hqp : q.1.size ≤ maxLen := by
                  obtain ⟨y, hy1, hy2⟩ := List.mem_map.1 HQN.out.2
                  rw [← hy2]
                  exact (hy y hy1).path
                have HKY := Lib.hid (keyStr hqp)
                have HM9 := Lib.hid (HM8.out.alloc (.cells #[.string q.1, .slice qra qrn qrc] 58))
                have HB9 : Hid (Below w5.heap.size w5 (wr.alloc (.cells #[.string q.1, .slice qra qrn qrc] 58))) := Lib.hid (HB58.out.alloc hs8 _)
                have HL1 := Lib.hid (HSE.out.size lawStr HM8.out HND.out.nodup)
                have HTL9 := Lib.hid (HTL.out.far (W' := wr.alloc (.cells #[.string q.1, .slice qra qrn qrc] 58)) (by rw [World.size_alloc]; omega) (fun b hb => (belQ wr _).block b (HTL.out.lt b hb).2))
                have HLE9 : Hid ((todo.length + 1) + 17 * (s.length - seen.length) ≤ roots.length + 17 * s.length) := HLE
                have hql : (0 : Int) < ((todo.length + 1 : Nat) : Int) := by omega
                have hztd : ∀ W, (zeroValue 4).run Tryz.prog W = .ok (.bool false) W := Tryz.zeroValue4
                have HZB := Lib.hid hztd
                obtain ⟨sb, hlk, hsb⟩ := HSE.out.look q.1
                have HLK := Lib.hid hlk
                have HSB := Lib.hid hsb
                clear hlk
                clear hsb hcell htail hp0 hp1 HSG HPX hztd
                cases sb with
                | true =>
                  have HL2 := Lib.hid (HSE.out.size lawStr HM9.out HND.out.nodup)
                  go_wp2_with (at_lookup; refine wpList_look_F rfl _ _ 159 rfl 9 4 lawStr Tryz.underlying159 (HZB.out _) w5.heap.size seen.length f2 (by rfl) HM9.out _ (.string q.1.data.toList) rfl HKY.out ?_; rw [HLK.out])
                  refine ⟨Lib.hid ⟨seen, todo, _, f2, HND.out.skip, HTL9.out, HPT.out, HM9.out, HSE.out, by have := HLE9.out; omega, HB9.out⟩, ?_⟩
                  rw [HL1.out, HL2.out]
                  simp [sliceN]
                | false =>
                  have HNS : Hid (q.1 ∉ seen) := Lib.hid (fun h => absurd (HSB.out.2 h) (by decide))
                  obtain ⟨x, r, hx1, hx2, hx3, hx4⟩ : ∃ x r, keyL x ∈ s ∧ x.path = q.1 ∧ G x r ∧ f (.string q.1.data.toList) = some (.agg (relC x r)) := by
                    rcases HSF.out q.1 with h | ⟨_, h⟩
                    · exact h
                    · obtain ⟨y, hy1, hy2⟩ := List.mem_map.1 HQN.out.2
                      exact absurd hy2 (h y hy1)
                  have hg : x ∈ X ∧ ReqsOf w3.heap.size r x.reqs w3 := by rw [← HG.out] at hx3; exact hx3
                  have HRR : Hid (reqsOf X (keyL x) = x.reqs) := Lib.hid (by
                    obtain ⟨i, hi, rfl⟩ := List.mem_iff_getElem.1 hg.1
                    have := findR_at (idx_ok HCX.out) hi
                    rw [List.getD_eq_getElem?_getD, List.getElem?_eq_getElem hi] at this
                    simp only [Option.getD_some] at this
                    unfold reqsOf
                    rw [this])
                  have h16 : x.reqs.length ≤ 16 := by have := reqsOf_len HCX.out (keyL x); rwa [HRR.out] at this
                  have HGR := Lib.hid hg.2
                  obtain ⟨rr, rcap, rfl⟩ : ∃ rr rcap, r = .slice rr x.reqs.length rcap := by obtain ⟨a, c, e, _⟩ := hg.2; exact ⟨a, c, e⟩
                  have HFE := Lib.hid (show (f (.string q.1.data.toList)).getD zeroR = .agg (relC x (.slice rr x.reqs.length rcap)) by rw [hx4]; rfl)
                  have HMK := Lib.hid (HND.out.mark HSAT.out HNS.out hx1 hx2)
                  rw [HRR.out] at HMK
                  have hsl2 : seen.length + 1 ≤ s.length := HMK.out.len
                  have hsm : todo.length + x.reqs.length ≤ 20000000 := by have := HLE9.out; omega
                  have HZR := Lib.hid (show ∀ W, (zeroValue 71).run Tryz.prog W = .ok zeroR W from Tryz.zeroValue71)
                  clear hx1 hx2 hx3 hx4 hg
                  have HBX := Lib.hid (World.alloc_heap_new wr (.cells #[.string q.1, .slice qra qrn qrc] 58))
                  simp only [relC] at HFE
                  go_upto_region 28 with (at_lookup; refine wpList_look_F rfl _ _ 159 rfl 9 4 lawStr Tryz.underlying159 (HZB.out _) w5.heap.size seen.length f2 (by rfl) HM9.out _ (.string q.1.data.toList) rfl HKY.out ?_; rw [HLK.out])
                  have hs9 : wr.heap.size < (wr.alloc (.cells #[.string q.1, .slice qra qrn qrc] 58)).heap.size := by simp
                  clear c0 c1
                  generalize wr.alloc (.cells #[.string q.1, .slice qra qrn qrc] 58) = W9 at *
                  have c0 : W9.cell? ⟨wr.heap.size, 0, none⟩ = some (.string q.1) := cell_of_row _ _ 0 _ _ _ HBX.out
                  go_upto_region 29 with (refine wpList_put_F rfl _ _ _ _ rfl 9 4 lawStr Tryz.underlying159 w5.heap.size seen.length f2 (by rfl) HM9.out (by unfold maxLen; omega) _ _ (.string q.1.data.toList) rfl rfl HKY.out ?_; intro W11 h11 g11; have H11 := Lib.hid h11; have G11 := Lib.hid g11; clear h11 g11)
                  have hsz9 := HB9.out.size
                  have hfr := field_reqs x (.slice rr x.reqs.length rcap) W11
                  have HB11 : Hid (Below w5.heap.size w5 W11) := Lib.hid (HB9.out.grown G11.out hsz9 (fun b hb => by cases hb; exact Nat.le_refl _))
                  have HBW11 := Lib.hid (HB5.out.trans (HB11.out.mono hs5))
                  have HBX11 := Lib.hid ((G11.out.block wr.heap.size hs9 (by intro e; injection e with e; omega)).trans HBX.out)
                  have HC11 := Lib.hid ((HBW11.out.block _ hcl).trans HC.out)
                  have HMF11 := Lib.hid (HMF.out.below HBW11.out)
                  have HTL11 := Lib.hid (HTL9.out.far G11.out.size (fun b hb => G11.out.block b (HTL9.out.lt b hb).2 (by intro e; injection e with e; have := (HTL9.out.lt b hb).1; omega)))
                  have hs11 := HB11.out.size
                  have hs11b : w5.heap.size + 1 ≤ W11.heap.size := by have := G11.out.size; omega
                  obtain ⟨news, hsrc, hpn⟩ := reqs_src (HGR.out.below (HB.out.trans (HBW11.out.mono hwr)) (Nat.le_refl _))
                  have HSRC := Lib.hid hsrc
                  have HPN := Lib.hid (HPT.out.app (by have := HTL11.out.len; rw [this]) hpn)
                  have HSE11 := Lib.hid (HSE.out.put q.1)
                  clear hsrc hpn c0
                  have c0 : W11.cell? ⟨wr.heap.size, 0, none⟩ = some (.string q.1) := cell_of_row _ _ 0 _ _ _ HBX11.out
                  have c1 : W11.cell? ⟨w3.heap.size + 1, 0, none⟩ = some (.map (some w3.heap.size)) := cell_of_row _ _ 0 _ _ _ HC11.out
                  go_wp2_with (first | (at_lookup; refine wpList_look_F rfl _ _ 157 rfl 9 71 lawStr Tryz.underlying157 (HZR.out _) w3.heap.size s.length f (by rfl) HMF11.out _ (.string q.1.data.toList) rfl HKY.out ?_; rw [HFE.out]) | (at_builtin; refine wpList_append_segC _ rfl _ _ 26 26 rfl 58 i0 _ 40 2 Tryz.underlying26 hi0 hz0 hz1 hz2 rfl (w5.heap.size + 1) (.slice qa todo.length qc) todo.length (xs.drop 2) (by rfl) HTL11.out hs11b x.reqs.length news HSRC.out (by unfold maxLen; omega) (by have := hsm; generalize todo.length + x.reqs.length = z at this ⊢; omega) ?_; intro v12 W12 h12 g12 _; have H12 := Lib.hid h12; have G12 := Lib.hid g12; obtain ⟨va12, vc12, rfl⟩ := h12.shape; clear h12 g12))
                  have HB12 : Hid (Below w5.heap.size w5 W12) := Lib.hid (HB11.out.grown G12.out hs11 (fun b hb => by have := (HTL11.out.lt b hb).1; omega))
                  have HM12 := Lib.hid (H11.out.kept G12.out (fun e => by have := (HTL11.out.lt _ e.symm).1; omega))
                  have HL2 := Lib.hid (HSE11.out.size lawStr HM12.out HMK.out.nodup)
                  refine ⟨Lib.hid ⟨q.1 :: seen, todo ++ x.reqs, xs.drop 2 ++ news, _, HMK.out, by rw [List.length_append]; exact H12.out, HPN.out, HM12.out, HSE11.out, by have := HLE9.out; rw [List.length_append, List.length_cons]; omega, HB12.out⟩, ?_⟩
                  rw [HL1.out, HL2.out]
                  simp only [sliceN, List.length_cons]
                  omega
        case pos =>
          obtain ⟨x, hxk, hxf, hxX, hxl, hxr⟩ := pick_at HCX.out HFO.out hlt2
          obtain ⟨ao, cap, e, hel⟩ := HRX.out
          injection e with e1 e2 e3
          subst e1
          obtain ⟨b, off, rfl, hbl, hat⟩ := hel k x hxk
          clear e2 e3 hel
          obtain ⟨r, a0, a1, a2, a3, a4, a5, a6, a7, a8, g9⟩ := hat
          have HB32 := Lib.hid (HB.out.trans (HB2.out.mono hwr))
          obtain ⟨g0, g1, g2, g3, g4, g5, g6, g7, g8⟩ := (show CellsAt w3 b (off + k * 9) x r from ⟨a0, a1, a2, a3, a4, a5, a6, a7, a8⟩).below HB32.out hbl
          clear a0 a1 a2 a3 a4 a5 a6 a7 a8
          have G9 := Lib.hid g9
          obtain ⟨rr, rcap, rfl⟩ : ∃ rr rcap, r = .slice rr x.reqs.length rcap := by obtain ⟨a, c, e, _⟩ := g9; exact ⟨a, c, e⟩
          clear g9
          have HXR := Lib.hid (And.intro hxX (And.intro hxr hxf))
          have HB9 : Hid (Below wA.heap.size wA (wr.alloc (.cells #[.string x.path, intC x.ver.1, intC x.ver.2.1, intC x.ver.2.2, .slice rr x.reqs.length rcap, .string x.ar, .string x.ifc, .string x.cert, .bool x.yk] 71))) := Lib.hid (HB2.out.alloc hs2 _)
          have HRQ9 : Hid (ReqsOf (wr.alloc (.cells #[.string x.path, intC x.ver.1, intC x.ver.2.1, intC x.ver.2.2, .slice rr x.reqs.length rcap, .string x.ar, .string x.ifc, .string x.cert, .bool x.yk] 71)).heap.size (.slice rr x.reqs.length rcap) x.reqs (wr.alloc (.cells #[.string x.path, intC x.ver.1, intC x.ver.2.1, intC x.ver.2.2, .slice rr x.reqs.length rcap, .string x.ar, .string x.ifc, .string x.cert, .bool x.yk] 71))) :=
            Lib.hid ((G9.out.below (HB32.out.alloc HB32.out.size _) (Nat.le_refl _)).mono (by rw [World.size_alloc]; omega))
          have HXB := Lib.hid (hq x hxX)
          obtain ⟨bb, hbb⟩ : ∃ bb, (x.reqs.any fun q => !metB s q) = bb := ⟨_, rfl⟩
          have HBBB := Lib.hid hbb
          clear hxk hxf hxX hxl hxr hbb
          go_wp2_with fail
          refine (HHAS.out _ x.reqs _ HXB.out.len HXB.out.reqs HB9.out HRQ9.out).mono ?_
          rintro e w5 ⟨rfl, hb5⟩
          rw [HBBB.out]
          have HB5 := Lib.hid (HB9.out.trans (hb5.mono HB9.out.size))
          clear hb5
          cases bb with
          | true =>
            have HNS : Hid (¬ SatP X roots s) := Lib.hid (fun h => by
              obtain ⟨q, hq1, hq2⟩ := List.any_eq_true.1 HBBB.out
              have := h.own (s.getD k default) (by rw [List.getD_eq_getElem?_getD, List.getElem?_eq_getElem hlt2]; exact List.getElem_mem hlt2) q (by rw [HXR.out.2.1]; exact hq1)
              rw [this] at hq2
              cases hq2)
            go_wp2_with fail
            go_ret
            exact SolveR.no (HB3.out.trans ((HB.out.trans (HB5.out.mono hwr)).mono HB3.out.size)) (by decide) (by decide) HNS.out
          | false =>
            have HM2 : Hid (∀ j, j < k + 1 → ∀ q ∈ reqsOf X (s.getD j default), metB s q = true) := Lib.hid (fun j hj q hq2 => by
              by_cases e : j = k
              · subst e
                rw [HXR.out.2.1] at hq2
                exact all_met HBBB.out q hq2
              · exact HMT.out j (by omega) q hq2)
            go_wp2_with fail
            go_roundw
            case rel => exact ⟨k + 1, by omega, by go_num, HM2, HB5⟩
            case measure => simp [intOf]; omega
    case pos =>
      obtain ⟨f, hf, hsf⟩ := HF.out
      have HMF := Lib.hid hf
      have HSF := Lib.hid hsf
      clear hf hsf
      obtain ⟨x, hxk⟩ : ∃ x, (pickK X s s.length)[k]? = some x := ⟨_, List.getElem?_eq_getElem (by rw [pickK_length (Nat.le_refl _)]; exact hlt)⟩
      obtain ⟨ao, cap, e, hel⟩ := HRX.out
      injection e with e1 e2 e3
      subst e1
      obtain ⟨b, off, rfl, hbl, hat⟩ := hel k x hxk
      clear e2 e3 hel
      obtain ⟨r, a0, a1, a2, a3, a4, a5, a6, a7, a8, g9⟩ := hat
      obtain ⟨g0, g1, g2, g3, g4, g5, g6, g7, g8⟩ := (show CellsAt w3 b (off + k * 9) x r from ⟨a0, a1, a2, a3, a4, a5, a6, a7, a8⟩).below HB.out hbl
      clear a0 a1 a2 a3 a4 a5 a6 a7 a8
      have G9 := Lib.hid g9
      obtain ⟨rr, rcap, rfl⟩ : ∃ rr rcap, r = .slice rr x.reqs.length rcap := by obtain ⟨a, c, e, _⟩ := g9; exact ⟨a, c, e⟩
      have c0 : wr.cell? ⟨w3.heap.size + 1, 0, none⟩ = some (.map (some w3.heap.size)) := cell_of_row _ _ 0 _ _ _ HC.out
      clear g9
      have hxf : findX X (s.getD k default) = some x := by
        obtain ⟨x2, hx2⟩ := Option.isSome_iff_exists.1 (HFO.out (s.getD k default) (by rw [List.getD_eq_getElem?_getD, List.getElem?_eq_getElem hlt]; exact List.getElem_mem hlt))
        unfold pickK at hxk
        rw [List.take_length, List.getElem?_map, List.getElem?_eq_getElem hlt] at hxk
        rw [List.getD_eq_getElem?_getD, List.getElem?_eq_getElem hlt] at hx2 ⊢
        simp only [Option.map_some, Option.some.injEq, Option.getD_some] at hxk hx2 ⊢
        rw [hx2] at hxk ⊢
        exact congrArg some hxk
      have hxX : x ∈ X ∧ keyL x = s.getD k default := by
        unfold findX at hxf
        rw [if_pos HCX.out] at hxf
        unfold findR at hxf
        exact ⟨List.mem_of_find?_eq_some hxf, by have := List.find?_some hxf; simpa using this⟩
      have hps : x.path.size ≤ maxLen := by have := (hq x hxX.1).path; unfold maxLen; omega
      have HXX := Lib.hid hxX
      clear hxf hxX
      have HMA := Lib.hid (HMF.out.alloc (.cells #[.string x.path, intC x.ver.1, intC x.ver.2.1, intC x.ver.2.2, .slice rr x.reqs.length rcap, .string x.ar, .string x.ifc, .string x.cert, .bool x.yk] 71))
      have hcl : w3.heap.size + 1 < wr.heap.size := (Array.getElem?_eq_some_iff.1 HC.out).1
      have HBA : Hid (Below w3.heap.size w3 (wr.alloc (.cells #[.string x.path, intC x.ver.1, intC x.ver.2.1, intC x.ver.2.2, .slice rr x.reqs.length rcap, .string x.ar, .string x.ifc, .string x.cert, .bool x.yk] 71))) := Lib.hid (HB.out.alloc HB.out.size _)
      have HCA : Hid ((wr.alloc (.cells #[.string x.path, intC x.ver.1, intC x.ver.2.1, intC x.ver.2.2, .slice rr x.reqs.length rcap, .string x.ar, .string x.ifc, .string x.cert, .bool x.yk] 71)).heap[w3.heap.size + 1]? = some (.cells #[.map (some w3.heap.size)] 157 (0, 0))) := Lib.hid (((belQ wr _).block _ hcl).trans HC.out)
      have HGX : Hid (G x (.slice rr x.reqs.length rcap)) := Lib.hid (by rw [← HG.out]; exact ⟨HXX.out.1, G9.out⟩)
      go_wp2_with (refine wpList_put_F rfl _ _ _ _ rfl 9 71 lawStr Tryz.underlying157 w3.heap.size k f (by rfl) HMA.out (by unfold maxLen; omega) _ _ (.string x.path.data.toList) rfl rfl (keyStr hps) ?_; intro W11 h11 g11; have HF11 : Hid (∃ f, MapF Tryz.prog 9 W11 w3.heap.size (k + 1) f ∧ SelF G (s.take (k + 1)) f) := Lib.hid ⟨_, h11, HSF.out.put hlt HXX.out.2 HGX.out⟩; have HB11 : Hid (Below w3.heap.size w3 W11) := Lib.hid (HBA.out.grown g11 HBA.out.size (fun b hb => by cases hb; exact Nat.le_refl _)); have HC11 : Hid (W11.heap[w3.heap.size + 1]? = some (.cells #[.map (some w3.heap.size)] 157 (0, 0))) := Lib.hid ((g11.block _ (by rw [World.size_alloc]; omega) (by simp)).trans HCA.out); clear h11 g11)
      go_roundw
      case rel => exact ⟨k + 1, by omega, by go_num, HF11, HB11, HC11⟩
      case measure => simp [intOf]; omega
end Go.Proofs.YtbbnoloploklkaaGreatDoor

namespace Go.Proofs.YtbbnoloploklkaaGreatDoor
set_option linter.unusedVariables false
set_option linter.unusedSimpArgs false
open Go Go.RowKit

abbrev OfT (S : List (List Nat)) (node least : Nat) := { k : Nat // k ∈ ofL S node least }
def valsOf {S : List (List Nat)} {node least : Nat} (l : List (OfT S node least)) : List Nat := l.map (·.1)
theorem valsOf_snoc {S : List (List Nat)} {node least : Nat} (l : List (OfT S node least)) (x : OfT S node least) : valsOf (l ++ [x]) = valsOf l ++ [x.1] := by simp [valsOf]
theorem valsOf_length {S : List (List Nat)} {node least : Nat} (l : List (OfT S node least)) : (valsOf l).length = l.length := by simp [valsOf]
theorem pref_cast {a a' b b' : List Nat} (h : a <+: b) (ha : a = a') (hb : b = b') : a' <+: b' := by subst ha hb; exact h
theorem len_cast {b b' : List Nat} {n : Nat} (h : n < b.length) (hb : b = b') : n < b'.length := by subst hb; exact h
theorem mem_cast {b b' : List Nat} {n : Nat} (h : n ∈ b) (hb : b = b') : n ∈ b' := by subst hb; exact h
def encOf {S : List (List Nat)} {node least : Nat} (x : OfT S node least) : Array Value := #[natC x.1]
theorem filter_take (p : Nat → Bool) (l : List Nat) (k : Nat) (h : k < l.length) : (l.take (k + 1)).filter p = if p l[k] then (l.take k).filter p ++ [l[k]] else (l.take k).filter p := by
  rw [List.take_succ_eq_append_getElem h, List.filter_append]
  by_cases hp : p l[k] <;> simp [hp]
theorem filter_pref (p : Nat → Bool) (l : List Nat) (k : Nat) : (l.take k).filter p <+: l.filter p := by
  obtain ⟨t, ht⟩ := List.take_prefix k l
  refine ⟨t.filter p, ?_⟩
  conv => rhs; rw [← ht]
  rw [List.filter_append]

attribute [local go_sem] Oper.semAt_some

set_option maxRecDepth 100000 in
set_option maxHeartbeats 4000000 in
theorem of1_in (n : Nat) (hn : 1 ≤ n) (l Bs B0 : Nat) (v : Value) (S : List (List Nat)) (node least : Nat) (J Jx : List (OfT S node least) → World → Prop) (W0 : World) (hnode : node < S.length) (hS63 : S.length ≤ 1000000000) (hl63 : (S.getD node []).length ≤ 1000000000)
    (hJ : AbidesFrom W0.heap.size J)
    (hY : ∀ pre x W, J pre W → pre.length < (ofL S node least).length → YieldAt Fence.wide (n - 1) Tryz.prog l (encOf x) W fun e W' =>
      (e = .returned (.bool true) ∧ J (pre ++ [x]) W' ∧ KpB (Bs + 1 + 1) B0 W W') ∨ (e = .returned (.bool false) ∧ Jx (pre ++ [x]) W'))
    (h0b : Boxed W0 Bs 161 v) (h1b : Boxed W0 (Bs + 1) 3 (natC node)) (h2b : Boxed W0 (Bs + 1 + 1) 3 (natC least)) (hR : RowsOf B0 v S W0) (h0 : J [] W0) :
    CallsIn Fence.wide n Tryz.prog 175 #[.func (.yield l) #[] #[], .pointer (some ⟨Bs, 0, none⟩), .pointer (some ⟨Bs + 1, 0, none⟩), .pointer (some ⟨Bs + 1 + 1, 0, none⟩)] W0 fun e W' => (∃ v, e = .returned v) ∧
      ((∃ ys : List (OfT S node least), valsOf ys = ofL S node least ∧ J ys W') ∨ (∃ pre : List (OfT S node least), valsOf pre <+: ofL S node least ∧ Jx pre W')) := by
  rcases hR with ⟨rfl, _⟩ | ⟨b, off, cap, rfl, hbB, hR⟩
  · simp at hnode
  obtain ⟨r, hr, hrow⟩ := hR node (S[node]) (by simp [hnode])
  have hg : S.getD node [] = S[node] := by simp [hnode]
  generalize S[node] = L at *
  have hc0 := h0b.cell
  have hc1 := h1b.cell
  have hc2 := h2b.cell
  have hlt2 := h2b.lt
  have hx0 : (0 : Int) ≤ (node : Int) := Int.natCast_nonneg _
  have hx1 : (node : Int) < (S.length : Int) := by omega
  have HB2 := Lib.hid h2b
  have HY := Lib.hid hY
  have HJ := Lib.hid hJ
  have HO : Hid (ofL S node least = L.filter (fun k => decide (least ≤ k))) := Lib.hid (by unfold ofL; rw [hg])
  have HG := Lib.hid hg
  clear hY hJ h2b hR hg
  refine callsIn_of_wp Tryz.func175 rfl trivial ?_ rfl
  simp only [Tryz.ntmps175, List.size_toArray, List.length_cons, List.length_nil, Nat.reduceAdd, Nat.reduceSub, Array.replicate_succ, Array.replicate_zero, List.push_toArray, List.append_toArray, List.nil_append, List.cons_append]
  rcases hrow with ⟨rfl, a', c', rfl⟩ | ⟨b', off', cap', rfl, hbB', hrow⟩
  · gi_wp2
    gi_loopw [12] (fun p wr => p = .int .i64 0 ∧ Hid (J [] wr)) (fun _ _ => 0)
    case atStart => exact ⟨rfl, Lib.hid h0⟩
    case round =>
      clear h0
      obtain ⟨rfl, HJ0⟩ := hrel
      gi_wp2
      go_end0
      exact ⟨⟨_, rfl⟩, .inl ⟨[], Eq.trans rfl HO.out.symm, HJ0.out⟩⟩
  · rw [HG.out] at hl63
    have HROW := Lib.hid hrow
    clear hrow
    gi_wp2
    gi_loopw [12] (fun p wr => ∃ (k : Nat) (ys : List (OfT S node least)), k ≤ L.length ∧ p = .int .i64 k ∧ Hid (valsOf ys = (L.take k).filter (fun k => decide (least ≤ k))) ∧ Hid (J ys wr) ∧ Hid (Boxed wr (Bs + 1 + 1) 3 (natC least)) ∧ Hid (Below B0 W0 wr)) (fun p _ => L.length - (intOf p).toNat)
    case atStart => exact ⟨0, [], by omega, rfl, Lib.hid rfl, Lib.hid h0, HB2, Lib.hid (Below.refl _ _)⟩
    case round =>
      clear h0 HB2 hc0 hc1 hc2
      obtain ⟨k, ys, hk, rfl, HYS, HJy, HB2, HBW⟩ := hrel
      by_cases hlt : k < L.length
      · have hcl := (HBW.out.cell (p := ⟨b', off' + k, none⟩) (by simp; omega)).trans (HROW.out k L[k] (by simp [hlt]))
        have hc2 := HB2.out.cell
        have HFT := Lib.hid (filter_take (fun k => decide (least ≤ k)) L k hlt)
        have HMEM : Hid (L[k] ∈ L) := Lib.hid (List.getElem_mem hlt)
        generalize L[k] = x at *
        by_cases hge : least ≤ x
        · have hge2 : (least : Int) ≤ (x : Int) := by omega
          have HX : Hid (x ∈ ofL S node least) := Lib.hid (mem_cast (List.mem_filter.2 ⟨HMEM.out, by simpa using hge⟩) HO.out.symm)
          have HL : Hid (ys.length < (ofL S node least).length) := Lib.hid (len_cast (by
            have e := congrArg List.length HYS.out
            rw [valsOf_length] at e
            have e2 := (filter_pref (fun k => decide (least ≤ k)) L (k + 1)).length_le
            rw [HFT.out, if_pos (by simpa using hge), List.length_append] at e2
            simp at e e2 ⊢
            omega) HO.out.symm)
          obtain ⟨fn, tmps, assign, body, hy, hR⟩ := HY.out ys ⟨x, HX.out⟩ wr HJy.out HL.out
          unfold encOf at hy
          dsimp only at hy
          gi_wp2_with fail
          refine hR.mono ?_
          rintro e W' (⟨rfl, hJ', hk'⟩ | ⟨rfl, hJx'⟩)
          · have HB3 : Hid (Boxed W' (Bs + 1 + 1) 3 (natC least)) := Lib.hid (hk'.1.trans HB2.out)
            have HBW3 : Hid (Below B0 W0 W') := Lib.hid (HBW.out.trans hk'.2)
            have HJ3 := Lib.hid hJ'
            clear hJ' hk' hR hy
            gi_wp2_with fail
            go_roundw
            case rel => exact ⟨k + 1, ys ++ [⟨x, HX.out⟩], by omega, by go_num, Lib.hid (by rw [HFT.out, if_pos (by simpa using hge), valsOf_snoc, HYS.out]), HJ3, HB3, HBW3⟩
            case measure => simp [intOf]; omega
          · have HJ3 := Lib.hid hJx'
            clear hJx' hR hy
            gi_wp2_with fail
            refine bodyPost_ret (results_none rfl _ _ _) rfl ?_
            refine ⟨⟨_, rfl⟩, .inr ⟨ys ++ [⟨x, HX.out⟩], ?_, HJ3.out⟩⟩
            have e2 := filter_pref (fun k => decide (least ≤ k)) L (k + 1)
            rw [HFT.out, if_pos (by simpa using hge), ← HYS.out] at e2
            exact pref_cast e2 (valsOf_snoc ys ⟨x, HX.out⟩).symm HO.out.symm
        · have hge2 : ¬ (least : Int) ≤ (x : Int) := by omega
          gi_wp2_with fail
          refine ⟨fun _ h => (by cases h), ?_⟩
          gi_wp2_with fail
          go_roundw
          case rel => exact ⟨k + 1, ys, by omega, by go_num, Lib.hid (by rw [HFT.out, if_neg (by simpa using hge)]; exact HYS.out), HJy, HB2, HBW⟩
          case measure => simp [intOf]; omega
      · have hkk : k = L.length := by omega
        subst hkk
        gi_wp2
        go_end0
        refine ⟨⟨_, rfl⟩, .inl ⟨ys, ?_, HJy.out⟩⟩
        have := HYS.out
        rw [List.take_length] at this
        exact this.trans HO.out.symm

theorem of_stops (n : Nat) (hn : 1 ≤ n) (Bs B0 : Nat) (v : Value) (S : List (List Nat)) (node least : Nat) (hnode : node < S.length) (hS63 : S.length ≤ 1000000000) (hl63 : (S.getD node []).length ≤ 1000000000) (w : World)
    (h0 : Boxed w Bs 161 v) (h1 : Boxed w (Bs + 1) 3 (natC node)) (h2 : Boxed w (Bs + 1 + 1) 3 (natC least)) (hR : RowsOf B0 v S w) (hB0 : B0 ≤ w.heap.size) :
    SeqStopsK Fence.wide n Tryz.prog 175 #[.pointer (some ⟨Bs, 0, none⟩), .pointer (some ⟨Bs + 1, 0, none⟩), .pointer (some ⟨Bs + 1 + 1, 0, none⟩)] (encOf (S := S) (node := node) (least := least)) (KpB (Bs + 1 + 1) B0)
      (fun ys => valsOf ys = ofL S node least) (fun pre => valsOf pre <+: ofL S node least) (ofL S node least).length w := fun l J Jx W hW hJ _ hY hj =>
  of1_in n hn l Bs B0 v S node least J Jx W hnode hS63 hl63 hJ hY ((hW.block _ h0.lt).trans h0) ((hW.block _ h1.lt).trans h1) ((hW.block _ h2.lt).trans h2) (hR.below hW hB0) hj
end Go.Proofs.YtbbnoloploklkaaGreatDoor
