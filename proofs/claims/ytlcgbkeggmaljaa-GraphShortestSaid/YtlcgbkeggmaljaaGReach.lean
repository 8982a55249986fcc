/- Contract of the graph's Reach. -/
import Derived.Test.YtlcgbkeggmaljaaGVisit
namespace Go.Proofs.Ytlcgbkeggmaljaa
set_option linter.unusedVariables false
set_option linter.unusedSimpArgs false
open Go Go.RowKit

/-- the nodes that are marked. -/
def marked (l : List Bool) : List Nat := (List.range l.length).filter fun i => l.getD i false
theorem mem_marked {l : List Bool} {k : Nat} : k ∈ marked l ↔ l[k]? = some true := by
  unfold marked
  rw [List.mem_filter, List.mem_range, List.getD_eq_getElem?_getD]
  constructor
  · rintro ⟨h, h2⟩
    rw [List.getElem?_eq_getElem h] at h2 ⊢
    simpa using h2
  · intro h
    have hl := (List.getElem?_eq_some_iff.1 h).1
    rw [h]
    exact ⟨hl, rfl⟩
theorem marked_sorted (l : List Bool) : (marked l).Pairwise (· < ·) := List.Pairwise.filter _ List.pairwise_lt_range
theorem marked_take (l : List Bool) (k : Nat) (h : k < l.length) : (List.range (k + 1)).filter (fun i => l.getD i false) = if l[k] = true then (List.range k).filter (fun i => l.getD i false) ++ [k] else (List.range k).filter (fun i => l.getD i false) := by
  rw [List.range_succ, List.filter_append]
  have e : l.getD k false = l[k] := by rw [List.getD_eq_getElem?_getD, List.getElem?_eq_getElem h]; rfl
  by_cases hk : l[k] = true
  · rw [if_pos hk, List.filter_cons_of_pos (by rw [e]; exact hk)]; rfl
  · rw [if_neg hk, List.filter_cons_of_neg (by rw [e]; exact hk)]; simp

/-- what is reached from some nodes. -/
def ReachS (N : Nat) (es : List (Int × Int)) (from_ : List Int) (l : List Nat) : Prop := l.Pairwise (· < ·) ∧ ∀ k, k ∈ l ↔ k < N ∧ ∃ a : Nat, (a : Int) ∈ from_ ∧ Rch (sucs N es) a k
theorem visL_bound {S : List (List Nat)} {n : Nat} {pre : List Nat} {sn : List Bool} (h : VisL S (List.replicate n false) pre sn) : sn.length = n := by rw [← h.1.1, List.length_replicate]
theorem visL_closed {S : List (List Nat)} {n : Nat} {pre : List Nat} {sn : List Bool} (h : VisL S (List.replicate n false) pre sn) {a b : Nat} (hr : Rch S a b) (ha : sn[a]? = some true) : sn[b]? = some true := by
  have hnf : ∀ a, (List.replicate n false)[a]? ≠ some true := fun a e => by
    have := List.eq_of_mem_replicate (List.mem_of_getElem? e)
    cases this
  induction hr with
  | refl => exact ha
  | step hb _ ih => exact ih ((h.2.2 _ ha (hnf _)).2 _ hb)
theorem reachS_of {N : Nat} {es : List (Int × Int)} {from_ : List Int} {fn : List Nat} {sn : List Bool} (hf : from_ = fn.map Int.ofNat) (h : VisL (sucs N es) (List.replicate N false) fn sn) : ReachS N es from_ (marked sn) := by
  subst hf
  refine ⟨marked_sorted _, fun k => ?_⟩
  rw [mem_marked]
  constructor
  · intro hk
    obtain ⟨⟨a, ha, hr⟩, _⟩ := h.2.2 k hk (fun e => by cases List.eq_of_mem_replicate (List.mem_of_getElem? e))
    refine ⟨?_, a, List.mem_map.2 ⟨a, ha, rfl⟩, hr⟩
    have := (List.getElem?_eq_some_iff.1 hk).1
    rwa [visL_bound h] at this
  · rintro ⟨_, a, ha, hr⟩
    obtain ⟨b, hb, e⟩ := List.mem_map.1 ha
    have : b = a := Int.ofNat.inj e
    subst this
    exact visL_closed h hr (h.2.1 _ hb)

set_option maxRecDepth 100000 in
set_option maxHeartbeats 4000000 in
theorem Reach_no (a : Option Addr) (N c : Nat) (ev lv : Value) (es : List (Int × Int)) (l : List Int) (w : World) (hes : es.length ≤ 1000000000000) (hE : EdgesOf w.heap.size ev es w) (hll : l.length ≤ 1000000000) (hL : RowOf intC w.heap.size lv l w) (hno : (validG N es && l.all (nodeB N)) = false) :
    Calls Try.prog 13 #[.agg #[.slice a N c, ev], lv] w fun e w' => e = .returned (.slice none 0 0) ∧ Below w.heap.size w w' := by
  have hb1 : Below w.heap.size w (w.alloc (.cells #[.slice a N c, ev] 25)) := (Below.refl _ _).alloc (Nat.le_refl _) _
  have hx := exist_any a N c ev lv es l _ hes ((hE.below hb1 (Nat.le_refl _)).mono hb1.size) hll ((hL.below hb1 (Nat.le_refl _)).mono hb1.size)
  rw [hno] at hx
  have HX := Lib.hid hx
  have HB1 := Lib.hid hb1
  obtain ⟨ao, ec, rfl, _⟩ := hE
  obtain ⟨la, lc, rfl, _⟩ := rowOf_open hL
  clear hx hb1 hno hL
  go_enter Try.func13, Try.ntmps13
  go_wp2_with fail
  refine HX.out.mono ?_
  rintro e w1 ⟨rfl, hb⟩
  go_wp2_with fail
  go_ret
  exact ⟨rfl, HB1.out.trans (hb.mono (by simp))⟩

set_option maxRecDepth 100000 in
set_option maxHeartbeats 4000000 in
theorem Reach_yes (a : Option Addr) (N c : Nat) (ev lv : Value) (es : List (Int × Int)) (fn : List Nat) (w : World) (hE : EdgesOf w.heap.size ev es w) (hll : fn.length ≤ 1000000000) (hL : RowOf intC w.heap.size lv (fn.map Int.ofNat) w) (hv : validG N es = true) (hn : ∀ k ∈ fn, k < N) :
    Calls Try.prog 13 #[.agg #[.slice a N c, ev], lv] w fun e w' => ∃ v l, e = .returned v ∧ ReachS N es (fn.map Int.ofNat) l ∧ w'.ownsRow w.heap.size 3 1 v l.length (l.map natC) ∧ Below w.heap.size w w' := by
  obtain ⟨hN, hes⟩ := validG_n hv
  have hb1 : Below w.heap.size w (w.alloc (.cells #[.slice a N c, ev] 25)) := (Below.refl _ _).alloc (Nat.le_refl _) _
  have hall : (fn.map Int.ofNat).all (nodeB N) = true := by
    rw [List.all_eq_true]
    intro x hx
    obtain ⟨k, hk, rfl⟩ := List.mem_map.1 hx
    have := hn k hk
    unfold nodeB
    exact decide_eq_true ⟨Int.natCast_nonneg k, by show ((k : Nat) : Int) < N; omega⟩
  have hx := exist_any a N c ev lv es (fn.map Int.ofNat) _ (by omega) ((hE.below hb1 (Nat.le_refl _)).mono hb1.size) (by simpa using hll) ((hL.below hb1 (Nat.le_refl _)).mono hb1.size)
  rw [hv, hall] at hx
  have HX := Lib.hid hx
  have HB1 := Lib.hid hb1
  have HE := Lib.hid hE
  obtain ⟨ao, ec, rfl, _⟩ := hE
  have hL2 := hL
  obtain ⟨la, lc, rfl, hL3⟩ := rowOf_open hL
  rw [List.length_map] at *
  have HL := Lib.hid hL3
  have HV := Lib.hid hv
  have HN := Lib.hid hn
  have hmk := make_bools N (by omega)
  clear hx hb1 hL hL2 hL3 hall hv hn
  go_enter Try.func13, Try.ntmps13
  go_wp2_with fail
  refine HX.out.mono ?_
  rintro e w1 ⟨rfl, hb⟩
  have hs1 := hb.size
  simp at hs1
  have hg0 : w1.cell? ⟨w.heap.size, 0, none⟩ = some (.slice a N c) := (hb.cell (p := ⟨w.heap.size, 0, none⟩) (by show w.heap.size < _; simp)).trans (cell_of_row _ _ 0 _ _ _ (World.alloc_heap_new w _))
  have hg1 : w1.cell? ⟨w.heap.size, 1, none⟩ = some (.slice ao es.length ec) := (hb.cell (p := ⟨w.heap.size, 1, none⟩) (by show w.heap.size < _; simp)).trans (cell_of_row _ _ 1 _ _ _ (World.alloc_heap_new w _))
  have HW1 := Lib.hid (HB1.out.trans (hb.mono (by simp)))
  have hns := newSucc_any a c N _ es w1 ((HE.out.below HW1.out (Nat.le_refl _)).mono (by omega)) HV.out
  have HNS := Lib.hid hns
  clear hb hns
  go_wp2_with fail
  refine HNS.out.mono ?_
  rintro e w2 ⟨v, vs, rfl, hgrid, hb2⟩
  have hs2 := hb2.size
  have hrows := hgrid.rows
  obtain ⟨va, vc, hvv⟩ := hgrid.shape
  rw [List.length_map, sucs_length] at hvv
  subst hvv
  have HR := Lib.hid hrows
  have HW2 := Lib.hid (HW1.out.trans (hb2.mono (by omega)))
  clear hrows hgrid hb2 HNS HW1 hg0 hg1
  go_wp2_with fail
  obtain ⟨W3, hW3⟩ : ∃ W3, W3 = (((w2.alloc (.cells #[.slice va N vc] 53)).alloc (.cells (Array.replicate N (.bool false)) 4)).alloc (.cells #[.slice (some ⟨w2.heap.size + 1, 0, none⟩) N N] 55)).alloc
    (.cells #[.func (.func 41) #[] #[.pointer (some ⟨w2.heap.size + 1 + 1, 0, none⟩), .pointer (some ⟨w2.heap.size, 0, none⟩), .pointer (some ⟨w2.heap.size + 1 + 1 + 1, 0, none⟩)]] 56) := ⟨_, rfl⟩
  have hB3 : Below w2.heap.size w2 W3 := by rw [hW3]; exact (((((Below.refl _ _).alloc (Nat.le_refl _) _).alloc (by simp) _).alloc (by simp; omega) _).alloc (by simp; omega) _)
  have hs3 : W3.heap.size = w2.heap.size + 4 := by rw [hW3]; simp
  have hV3 : VisW W3 w2.heap.size w2.heap.size (w2.heap.size + 1 + 1) (w2.heap.size + 1 + 1 + 1) (w2.heap.size + 1) (.slice va N vc) (sucs N es) := by
    refine ⟨?_, ?_, ?_, HR.out.below hB3 (Nat.le_refl _)⟩
    · rw [hW3]; exact (((Boxed.new w2 _ _).alloc _).alloc _).alloc _
    · rw [hW3]
      have := (Boxed.new ((w2.alloc (.cells #[.slice va N vc] 53)).alloc (.cells (Array.replicate N (.bool false)) 4)) 55 (.slice (some ⟨w2.heap.size + 1, 0, none⟩) N N)).alloc (.cells #[.func (.func 41) #[] #[.pointer (some ⟨w2.heap.size + 1 + 1, 0, none⟩), .pointer (some ⟨w2.heap.size, 0, none⟩), .pointer (some ⟨w2.heap.size + 1 + 1 + 1, 0, none⟩)]] 56)
      rw [World.size_alloc, World.size_alloc] at this
      rw [sucs_length]
      exact this
    · rw [hW3]
      have := Boxed.new (((w2.alloc (.cells #[.slice va N vc] 53)).alloc (.cells (Array.replicate N (.bool false)) 4)).alloc (.cells #[.slice (some ⟨w2.heap.size + 1, 0, none⟩) N N] 55)) 56 (.func (.func 41) #[] #[.pointer (some ⟨w2.heap.size + 1 + 1, 0, none⟩), .pointer (some ⟨w2.heap.size, 0, none⟩), .pointer (some ⟨w2.heap.size + 1 + 1 + 1, 0, none⟩)])
      rw [World.size_alloc, World.size_alloc, World.size_alloc] at this
      exact this
  have hF3 : Flags W3 (w2.heap.size + 1) (List.replicate N false) := by
    rw [hW3]
    unfold Flags
    refine (Below.heap_alloc _ _ _ (by simp)).trans ((Below.heap_alloc _ _ _ (by simp)).trans ?_)
    have := World.alloc_heap_new (w2.alloc (.cells #[.slice va N vc] 53)) (.cells (Array.replicate N (.bool false)) 4)
    rw [World.size_alloc] at this
    rw [this]
    simp
  rw [← hW3]
  clear hW3
  have HV3 := Lib.hid hV3
  have HF3 := Lib.hid hF3
  have HB3 := Lib.hid hB3
  clear hV3 hF3 hB3 hmk
  have hfn : (fn.length : Int) ≤ 1000000000 := by omega
  go_loopw [25] (fun p wr => ∃ (k : Nat) (sn : List Bool), k ≤ fn.length ∧ p = .int .i64 k ∧ Hid (VisL (sucs N es) (List.replicate N false) (fn.take k) sn) ∧ Hid (Flags wr (w2.heap.size + 1) sn) ∧ Hid (VisW wr w2.heap.size w2.heap.size (w2.heap.size + 1 + 1) (w2.heap.size + 1 + 1 + 1) (w2.heap.size + 1) (.slice va N vc) (sucs N es)) ∧ Hid (W3.grownBy wr (some (w2.heap.size + 1)))) (fun p _ => fn.length - (intOf p).toNat)
  case atStart => exact ⟨0, _, by omega, rfl, Lib.hid (VisL.nil _ _), HF3, HV3, Lib.hid (World.grownBy.refl _ _)⟩
  case round =>
    clear HV3 HF3
    obtain ⟨k, sn, hk, rfl, HVL, HF, HVW, HG⟩ := hrel
    have hsr := HG.out.size
    have HBR : Hid (Below w2.heap.size w2 wr) := Lib.hid (HB3.out.grown HG.out (by omega) (fun j e => by cases e; omega))
    by_cases hlt : k < fn.length
    · obtain ⟨b, off, rfl, hb, hc⟩ := HL.out k (Int.ofNat fn[k]) (by rw [List.getElem?_map, List.getElem?_eq_getElem hlt]; rfl)
      have hc1 : wr.cell? ⟨b, off + k, none⟩ = some (natC fn[k]) := ((HW2.out.trans (HBR.out.mono (by omega))).cell (p := ⟨b, off + k, none⟩) hb).trans hc
      have HT : Hid (fn.take (k + 1) = fn.take k ++ [fn[k]]) := Lib.hid (List.take_succ_eq_append_getElem hlt)
      have hnk := HN.out _ (List.getElem_mem hlt)
      generalize fn[k] = n at *
      have hcc := HVW.out.c.cell
      have hcall := visit_any w2.heap.size w2.heap.size (w2.heap.size + 1 + 1) (w2.heap.size + 1 + 1 + 1) (w2.heap.size + 1) (.slice va N vc) (sucs N es) (by rw [sucs_length]; omega)
        (fun a => by
          by_cases ha : a < N
          · rw [sucs_getD _ _ _ ha]; have := sucL_length N es a; omega
          · rw [List.getD_eq_getElem?_getD, List.getElem?_eq_none (by rw [sucs_length]; omega)]; simp)
        (fun a k hk => by
          rw [sucs_length]
          by_cases ha : a < N
          · rw [sucs_getD _ _ _ ha] at hk; exact (mem_sucL.1 hk).1
          · rw [List.getD_eq_getElem?_getD, List.getElem?_eq_none (by rw [sucs_length]; omega)] at hk; simp at hk)
        (by omega) (by omega) (by omega) (by omega) (unseen sn) sn n wr (Nat.le_refl _) (by rw [visL_bound HVL.out, sucs_length]) (by rw [sucs_length]; exact hnk) (by omega) HVW.out HF.out
      have HCALL := Lib.hid hcall
      clear hc hcall
      go_wp2_with fail
      refine HCALL.out.mono ?_
      rintro e w4 ⟨rfl, sn', hv4, hF4, hg4⟩
      go_wp2_with fail
      go_roundw
      case rel => exact ⟨k + 1, sn', by omega, by go_num, Lib.hid (by rw [HT.out]; exact HVL.out.snoc hv4), Lib.hid hF4, Lib.hid (HVW.out.kept hg4 (by omega) (by omega) (by omega) (by omega) (by omega)), Lib.hid (HG.out.trans hg4)⟩
      case measure => simp [intOf]; omega
    · have hkk : k = fn.length := by omega
      subst hkk
      rw [List.take_length] at HVL
      have hcs := HVW.out.f.cell
      rw [sucs_length] at hcs
      have hsl := visL_bound HVL.out
      go_wp2_with fail
      obtain ⟨i0, hi0', hz0, hz1, hz2⟩ := info_parts info_ints
      obtain ⟨wo, rfl⟩ : ∃ wo : World, wo = wr := ⟨_, rfl⟩
      go_loopw [10, 35] (fun o p wr => ∃ k : Nat, k ≤ N ∧ p = .int .i64 k ∧ Hid (wr.ownsRow w.heap.size 3 1 o ((List.range k).filter fun i => sn.getD i false).length (((List.range k).filter fun i => sn.getD i false).map natC)) ∧ Hid (Flags wr (w2.heap.size + 1) sn) ∧ Hid (Below w.heap.size w wr)) (fun _ p _ => N - (intOf p).toNat)
      case atStart => exact ⟨0, by omega, rfl, Lib.hid (World.ownsRow_nil _ _ _ _), HF, Lib.hid (HW2.out.trans (HBR.out.mono (by omega)))⟩
      case round =>
        clear HF HVW HG HBR hcs
        obtain ⟨k, hk, rfl, HO, HF, HB⟩ := hrel
        by_cases hlt : k < N
        · have hsk : k < sn.length := by omega
          have hc1 := HF.out.cell k sn[k] (by simp [hsk])
          have HM := Lib.hid (marked_take sn k hsk)
          have hsb := HB.out.size
          have hle : ((List.range k).filter fun i => sn.getD i false).length ≤ k := by
            have := List.length_filter_le (fun i => sn.getD i false) (List.range k)
            simpa using this
          generalize sn[k] = b at *
          cases b with
          | true =>
            have HM2 : Hid ((List.range (k + 1)).filter (fun i => sn.getD i false) = (List.range k).filter (fun i => sn.getD i false) ++ [k]) := Lib.hid (by rw [HM.out, if_pos rfl])
            generalize (List.range k).filter (fun i => sn.getD i false) = lk at *
            go_wp2_with (at_builtin; refine wpList_append_own _ rfl _ _ 26 rfl w.heap.size 3 i0 _ 1 8 Try.underlying26 hi0' hz0 hz1 hz2 rfl (by decide) _ _ _ (by rfl) (HO.out.alloc _) ⟨wr.heap.size, 0, none⟩ 1 1 [natC k] (by rfl) (by rfl) (World.news_of_block (cs := #[natC k]) (t := 3) (fr := (0, 0)) (heap_alloc_new wr _)) (by simp [Value.oneCell']) (by unfold maxLen; omega) (by omega) (by simp; omega) ?_; intro v' w5 hown' hgrow _)
            go_roundw
            case rel =>
              refine ⟨k + 1, by omega, by go_num, Lib.hid (by rw [HM2.out, List.length_append, List.map_append]; exact hown'), Lib.hid ?_, Lib.hid ((HB.out.alloc hsb _).grown hgrow (by simp; omega) (fun j hj => (HO.out.lt j hj).1))⟩
              refine (hgrow.block _ ?_ (blk_ne HF.out HO.out (by decide))).trans ((Below.heap_alloc _ _ _ (Array.getElem?_eq_some_iff.1 HF.out).1).trans HF.out)
              have := (Array.getElem?_eq_some_iff.1 HF.out).1
              simp
              omega
            case measure => simp [intOf]; omega
          | false =>
            go_wp2_with fail
            go_roundw
            case rel => exact ⟨k + 1, by omega, by go_num, Lib.hid (by rw [HM.out, if_neg (by simp)]; exact HO.out), HF, HB⟩
            case measure => simp [intOf]; omega
        · have hkk : k = N := by omega
          subst hkk
          go_wp2_with fail
          go_ret
          refine ⟨_, marked sn, rfl, reachS_of rfl HVL.out, ?_, HB.out⟩
          unfold marked
          rw [hsl]
          exact HO.out
end Go.Proofs.Ytlcgbkeggmaljaa
