/- Contracts of package lock: places; Sort and Compact at strings. Waves, plain: paths sorted and compacted. -/
import Derived.Test.YtnjiibiafhnmgaaGreatDoorYS
import Derived.Test.YtnjiibiafhnmgaaGreatDoorQShelf
import Derived.Sort.OwnSorted
import Derived.Test.YtnjiibiafhnmgaaGreatDoorYA
namespace Go.Proofs.YtnjiibiafhnmgaaGreatDoor
open Go Go.RowKit Go.Maps Go.Sort Go.Shelf Go.Lib

def PlcF (s : List SelL) (f : Lit → Option Value) : Prop := ∀ p : ByteArray, f (.string p.data.toList) = (atS s p).map fun y => .int .i64 (plc y.2)
theorem atS_take {s : List SelL} (hi : incrS s) {k : Nat} (hk : k < s.length) (p : ByteArray) : atS (s.take (k + 1)) p = if p = s[k].1 then some s[k] else atS (s.take k) p := by
  have hno : ∀ y ∈ s.take k, y.1 ≠ s[k].1 := fun y hy e => by
    obtain ⟨j, hj⟩ := List.mem_iff_getElem?.1 hy
    rw [List.getElem?_take] at hj
    split at hj
    · obtain ⟨hjl, rfl⟩ := List.getElem?_eq_some_iff.1 hj
      have := List.pairwise_iff_getElem.1 hi j k hjl hk (by assumption)
      rw [e, ltB_irrefl] at this; cases this
    · cases hj
  unfold atS
  rw [List.take_succ_eq_append_getElem hk, List.find?_append]
  by_cases hp : p = s[k].1
  · subst hp
    rw [if_pos rfl, List.find?_eq_none.2 (fun y hy e => hno y hy (of_decide_eq_true e))]
    simp
  · rw [if_neg hp]
    have h1 : List.find? (fun y : SelL => decide (y.1 = p)) [s[k]] = none := by
      rw [List.find?_eq_none]
      intro y hy e
      rw [List.mem_singleton.1 hy] at e
      exact hp (of_decide_eq_true e).symm
    rw [h1]
    cases List.find? (fun y : SelL => decide (y.1 = p)) (s.take k) <;> rfl
theorem PlcF.start : PlcF [] (fun _ => none) := fun _ => rfl
theorem PlcF.put {s : List SelL} (hi : incrS s) {k : Nat} (hk : k < s.length) {f : Lit → Option Value} (h : PlcF (s.take k) f) : PlcF (s.take (k + 1)) (putF f (.string s[k].1.data.toList) (.int .i64 (plc s[k].2))) := fun p => by
  rw [atS_take hi hk]
  unfold putF
  by_cases hp : p = s[k].1
  · subst hp
    rw [if_pos rfl, if_pos rfl]
    rfl
  · rw [if_neg hp, if_neg (fun e => hp (by injection e with e; exact ByteArray.ext (Array.toList_inj.1 e)))]
    exact h p
theorem PlcF.look {s : List SelL} {f : Lit → Option Value} (h : PlcF s f) (p : ByteArray) : (f (.string p.data.toList)).getD (.int .i64 0) = .int .i64 (match atS s p with | some y => plc y.2 | none => 0) ∧ (f (.string p.data.toList)).isSome = (atS s p).isSome := by
  rw [h p]
  cases atS s p <;> exact ⟨rfl, rfl⟩
set_option maxRecDepth 100000 in
set_option maxHeartbeats 8000000 in
theorem places_any (sv : Value) (s : List SelL) (w : World) (hl : s.length ≤ 1000000) (hi : incrS s) (hv : ∀ y ∈ s, validB y.2.1 y.2.2.1 y.2.2.2 = true) (hp : ∀ y ∈ s, y.1.size ≤ maxLen) (hS : SelsOf w.heap.size sv s w) :
    Calls Tryz.prog 96 #[sv] w fun e w' => e = .returned (.tuple #[.map (some w.heap.size), .bool true]) ∧ (∃ f, MapF Tryz.prog 9 w' w.heap.size s.length f ∧ PlcF s f) ∧ Below w.heap.size w w' := by
  have HS := Lib.hid hS
  have HIN := Lib.hid hi
  have HV := Lib.hid hv
  have HP := Lib.hid hp
  obtain ⟨sa, sc, rfl⟩ : ∃ sa sc, sv = .slice sa s.length sc := by obtain ⟨a, c, e, _⟩ := hS; exact ⟨a, c, e⟩
  clear hi hv hp hS
  have hmm := @run_makeMap Tryz.prog
  have HM0 : Hid (MapF Tryz.prog 9 (w.alloc (.map #[] 0)) w.heap.size 0 (fun _ => none)) := Lib.hid (MapF.made Tryz.prog 9 w)
  have HB0 := Lib.hid (belQ w (.map #[] 0))
  go_enter Tryz.func96, Tryz.ntmps96
  go_upto_region 2 with fail
  generalize w.alloc (.map #[] 0) = W0 at *
  clear hmm
  go_wp2_with fail
  go_loopw [12] (fun p wr => Hid (∃ k : Nat, k ≤ s.length ∧ p = .int .i64 (k : Int) ∧ (∃ f, MapF Tryz.prog 9 wr w.heap.size k f ∧ PlcF (s.take k) f) ∧ Below w.heap.size w wr)) (fun p _ => s.length - (intOf p).toNat)
  case atStart => exact Lib.hid ⟨0, Nat.zero_le _, rfl, ⟨_, HM0.out, PlcF.start⟩, HB0.out⟩
  case round =>
    obtain ⟨k, hk, rfl, ⟨f, hmf, hpf⟩, hb⟩ := hrel.out
    have HMF := Lib.hid hmf
    have HPF := Lib.hid hpf
    have HB := Lib.hid hb
    clear hrel hmf hpf hb HM0 HB0
    by_cases hlt : k < s.length
    case neg =>
      have hkk : k = s.length := Nat.le_antisymm hk (Nat.le_of_not_lt hlt)
      clear hk
      subst hkk
      have HE : Hid (∃ f, MapF Tryz.prog 9 wr w.heap.size s.length f ∧ PlcF s f) := Lib.hid ⟨f, HMF.out, by have := HPF.out; rwa [List.take_length] at this⟩
      go_wp2_with fail
      go_ret2
      exact ⟨rfl, HE.out, HB.out⟩
    case pos =>
      have hk0 : (0 : Int) ≤ (k : Int) := Int.natCast_nonneg k
      have hkz : (k : Int) < (s.length : Int) := Int.ofNat_lt.2 hlt
      obtain ⟨b, off, rfl, hbl, d0, d1, d2, d3⟩ := HS.out.at hlt
      have hyk : s.getD k default = s[k] := by rw [List.getD_eq_getElem?_getD, List.getElem?_eq_getElem hlt]; rfl
      rw [hyk] at d0 d1 d2 d3
      have d0 := (HB.out.cell (p := ⟨b, off + k * 4, none⟩) hbl).trans d0
      have d1 := (HB.out.cell (p := ⟨b, off + k * 4 + 1, none⟩) hbl).trans d1
      have d2 := (HB.out.cell (p := ⟨b, off + k * 4 + 2, none⟩) hbl).trans d2
      have d3 := (HB.out.cell (p := ⟨b, off + k * 4 + 3, none⟩) hbl).trans d3
      have HPUT := Lib.hid (HPF.out.put HIN.out hlt)
      have hps := HP.out _ (List.getElem_mem hlt)
      have HVB : Hid (placeV s[k].2.1 s[k].2.2.1 s[k].2.2.2 = (plc s[k].2, 0)) := Lib.hid (by unfold placeV; rw [if_pos (HV.out _ (List.getElem_mem hlt))]; rfl)
      have hbw : b < wr.heap.size := Nat.lt_of_lt_of_le hbl HB.out.size
      -- the element ahead
      have HPRE : Hid (0 < k → ∃ pa : ByteArray, (∀ W, Below wr.heap.size wr W → W.cell? ⟨b, off + (k - 1) * 4, none⟩ = some (.string pa)) ∧ ltB pa s[k].1 = true) := Lib.hid (fun hk1 => by
        have hkm : k - 1 < s.length := by omega
        obtain ⟨b', off', e2, hbl2, f0, _⟩ := HS.out.at hkm
        cases e2
        have hym : s.getD (k - 1) default = s[k - 1] := by rw [List.getD_eq_getElem?_getD, List.getElem?_eq_getElem hkm]; rfl
        rw [hym] at f0
        refine ⟨s[k - 1].1, fun W hW => ?_, List.pairwise_iff_getElem.1 HIN.out (k - 1) k hkm hlt (by omega)⟩
        exact (hW.cell (p := ⟨b, off + (k - 1) * 4, none⟩) hbw).trans ((HB.out.cell (p := ⟨b, off + (k - 1) * 4, none⟩) hbl).trans f0))
      clear hyk HPF
      generalize s[k] = y at *
      have HPL := Lib.hid (fun W => Place_any y.2.1 y.2.2.1 y.2.2.2 W)
      rw [HVB.out] at HPL
      generalize plc y.2 = pl at *
      have hbq := belQ wr (.cells #[.string y.1, intC y.2.1, intC y.2.2.1, intC y.2.2.2] 53)
      have HN1 := Lib.hid (World.alloc_heap_new wr (.cells #[.string y.1, intC y.2.1, intC y.2.2.1, intC y.2.2.2] 53))
      have HB1 := Lib.hid hbq
      have HM1 := Lib.hid (HMF.out.below hbq)
      clear hbq
      go_upto_region 5 with fail
      generalize wr.alloc (.cells #[.string y.1, intC y.2.1, intC y.2.2.1, intC y.2.2.2] 53) = W1 at *
      obtain ⟨gy, hgy⟩ : ∃ gy, wr.heap.size = gy := ⟨_, rfl⟩
      have HGY := Lib.hid hgy
      rw [hgy] at HN1
      simp only [hgy]
      clear hgy d0 d1 d2 d3
      have hgyl : gy < W1.heap.size := (Array.getElem?_eq_some_iff.1 HN1.out).1
      have y1 : W1.cell? ⟨gy, 1, none⟩ = some (intC y.2.1) := cell_of_row _ _ 1 _ _ _ HN1.out
      have y2 : W1.cell? ⟨gy, 2, none⟩ = some (intC y.2.2.1) := cell_of_row _ _ 2 _ _ _ HN1.out
      have y3 : W1.cell? ⟨gy, 3, none⟩ = some (intC y.2.2.2) := cell_of_row _ _ 3 _ _ _ HN1.out
      go_wp2_with fail
      refine (HPL.out W1).mono ?_
      rintro e w2 ⟨rfl, hb2⟩
      have HB2 : Hid (Below wr.heap.size wr w2) := Lib.hid (HB1.out.trans (hb2.mono HB1.out.size))
      have HM2 := Lib.hid (HM1.out.below hb2)
      have HN2 := Lib.hid ((hb2.block gy hgyl).trans HN1.out)
      clear hb2 HPL y1 y2 y3 HN1 HM1 HB1
      have y0 : w2.cell? ⟨gy, 0, none⟩ = some (.string y.1) := cell_of_row _ _ 0 _ _ _ HN2.out
      have HEND : Hid (∀ n W', MapF Tryz.prog 9 W' w.heap.size (k + 1) (putF f (.string y.1.data.toList) (.int .i64 pl)) → (w2.drewN n).grownBy W' (some w.heap.size) → (∃ f, MapF Tryz.prog 9 W' w.heap.size (k + 1) f ∧ PlcF (s.take (k + 1)) f) ∧ Below w.heap.size w W') := Lib.hid (fun n W' h11 g11 => by
        have h2 : Below w.heap.size w (w2.drewN n) := below_drewN (HB.out.trans (HB2.out.mono HB.out.size)) n
        exact ⟨⟨_, h11, HPUT.out⟩, h2.grown g11 h2.size (fun b hb => by cases hb; exact Nat.le_refl _)⟩)
      by_cases hk1 : 0 < k
      case neg =>
        have hkz2 : ¬ (0 : Int) < (k : Int) := by omega
        have hkd : decide ((0 : Int) < (k : Int)) = false := decide_eq_false hkz2
        have hkd2 : decide (0 < k) = false := decide_eq_false hk1
        clear HPRE hk1
        go_wp2_with fail
        go_quiet (fail)
        go_wp2_with (refine wpList_put_F rfl _ _ _ _ rfl 9 3 lawStr Tryz.underlying140 w.heap.size k f (by rfl) (HM2.out.below (below_drewN (Below.refl _ _) _)) (by unfold maxLen; omega) _ _ (.string y.1.data.toList) rfl rfl (keyStr hps) ?_; intro W' h11 g11; have HJ := Lib.hid (HEND.out _ W' h11 g11); clear h11 g11)
        all_goals
          refine ⟨Lib.hid ⟨k + 1, hlt, by go_num, HJ.out.1, HJ.out.2⟩, ?_⟩
          simp [intOf]; omega
      case pos =>
        obtain ⟨pa, hpa, hlb⟩ := HPRE.out hk1
        have p0 := hpa w2 HB2.out
        have hc2 : Op.bytesLess pa.toList y.1.toList = true := hlb
        have hkz2 : (0 : Int) < (k : Int) := by omega
        have hkd : decide ((0 : Int) < (k : Int)) = true := decide_eq_true hkz2
        have hkd2 : decide (0 < k) = true := decide_eq_true hk1
        have hsub : wrap64 ((k : Int) - 1) = ((k - 1 : Nat) : Int) := wrap_pre2 hk1 hlt hl
        have hsub2 : IntKind.i64.wrap ((k : Int) - 1) = ((k - 1 : Nat) : Int) := by rw [IntWalk.i64_in _ (by omega)]; omega
        have hi0 : (0 : Int) ≤ ((k - 1 : Nat) : Int) := Int.natCast_nonneg _
        have hi1 : ((k - 1 : Nat) : Int) < (s.length : Int) := Int.ofNat_lt.2 (by omega)
        clear HPRE hpa hlb
        go_wp2_with fail
        go_quiet (fail)
        clear hsub hsub2
        go_wp2_with (refine wpList_put_F rfl _ _ _ _ rfl 9 3 lawStr Tryz.underlying140 w.heap.size k f (by rfl) (HM2.out.below (below_drewN (Below.refl _ _) _)) (by unfold maxLen; omega) _ _ (.string y.1.data.toList) rfl rfl (keyStr hps) ?_; intro W' h11 g11; have HJ := Lib.hid (HEND.out _ W' h11 g11); clear h11 g11)
        all_goals
          refine ⟨Lib.hid ⟨k + 1, hlt, by go_num, HJ.out.1, HJ.out.2⟩, ?_⟩
          simp [intOf]; omega
set_option maxRecDepth 100000 in
theorem moves1_any (s : List SelL) (p : ByteArray) (m : Nat) (f : Lit → Option Value) (W : World) (hm : MapF Tryz.prog 9 W m s.length f) (hf : PlcF s f) (hp : p.size ≤ maxLen) :
    Calls Tryz.prog 98 #[.map (some m), .string p] W fun e w' => e = .returned (.int .i64 (plcS s p)) ∧ w' = W := by
  have HMF := Lib.hid hm
  have HKY := Lib.hid (keyStr (p := p) hp)
  have HZ := Lib.hid (show ∀ W, (zeroValue 3).run Tryz.prog W = .ok (.int .i64 0) W from Tryz.zeroValue3)
  obtain ⟨h1, h2⟩ := hf.look p
  have HL1 := Lib.hid h1
  have HL2 := Lib.hid h2
  have hpc : plcS s p = match atS s p with | some y => plc y.2 | none => -1 := rfl
  rw [hpc]
  clear hm hf hp h1 h2 hpc
  cases ha : atS s p with
  | none =>
    rw [ha] at HL1 HL2
    simp only [Option.isSome_none] at HL1 HL2
    go_enter Tryz.func98, Tryz.ntmps98
    go_wp2_with (at_lookup; refine wpList_look_ok_F rfl _ _ 140 rfl 9 3 lawStr Tryz.underlying140 (HZ.out _) m s.length f (by rfl) HMF.out _ (.string p.data.toList) rfl HKY.out ?_; rw [HL1.out, HL2.out])
    go_ret
    exact ⟨rfl, rfl⟩
  | some y =>
    rw [ha] at HL1 HL2
    simp only [Option.isSome_some] at HL1 HL2
    go_enter Tryz.func98, Tryz.ntmps98
    go_wp2_with (at_lookup; refine wpList_look_ok_F rfl _ _ 140 rfl 9 3 lawStr Tryz.underlying140 (HZ.out _) m s.length f (by rfl) HMF.out _ (.string p.data.toList) rfl HKY.out ?_; rw [HL1.out, HL2.out])
    go_ret
    exact ⟨rfl, rfl⟩
def strsC (l : List ByteArray) : List Value := l.map Value.string
theorem strsC_enc (l : List ByteArray) : strsC l = (l.map fun p => p.data.toList).map encStr := by
  unfold strsC
  rw [List.map_map]
  exact List.map_congr_left fun p _ => rfl
theorem strsC_dec (l : List (List UInt8)) : l.map encStr = strsC (l.map fun x => ⟨x.toArray⟩) := by
  unfold strsC
  rw [List.map_map]
  rfl
theorem sort_strs (B : Nat) (v : Value) (l : List ByteArray) (w : World) (h : w.ownsRow B 9 1 v l.length (strsC l)) (hl : l.length ≤ 1000000000) :
    Calls Tryz.prog 62 #[v] w fun e w' => e = .returned (.tuple #[]) ∧ ∃ l' : List ByteArray, l' = (((l.map fun p => p.data.toList).mergeSort fun x y => decide (x ≤ y)).map fun x => ⟨x.toArray⟩) ∧ l'.length = l.length ∧ w.grownBy w' v.ownBlock ∧ w'.ownsRow B 9 1 v l'.length (strsC l') := by
  rw [strsC_enc] at h
  have hlen : ((l.map fun p => p.data.toList).mergeSort fun x y => decide (x ≤ y)).length = l.length := by rw [List.length_mergeSort, List.length_map]
  rcases h.2 with ⟨rfl, h0⟩ | ⟨g, cap, cur, rfl, hb, hg, hc, hcm, hcs, ht⟩
  · obtain rfl : l = [] := List.length_eq_zero_iff.1 h0
    refine (Tryz.slices_Sort_string_none none 0 w).mono ?_
    rintro e w' ⟨rfl, rfl⟩
    exact ⟨rfl, _, rfl, by simp, World.grownBy.refl _ _, by simpa [strsC] using World.ownsRow_nil _ _ _ _⟩
  · have e0 : (l.map fun p => p.data.toList).length = l.length := List.length_map _
    have hq := Tryz.slices_Sort_string g 0 cap (l.map fun p => p.data.toList) w (holds_of_block hg (by rw [e0]; simpa using ht)) (Array.getElem?_eq_some_iff.1 hg).1 (by omega)
    rw [e0] at hq
    refine hq.mono ?_
    rintro e w' ⟨rfl, n, os, rfl⟩
    refine ⟨rfl, _, rfl, by rw [List.length_map, hlen], grownBy_sorted _, ?_⟩
    have ho := ownsRow_sorted (n := n) (os := os) (base := B) (ss := l.map fun p => p.data.toList) (ts := (l.map fun p => p.data.toList).mergeSort fun x y => decide (x ≤ y)) (by rw [hlen, e0]) hb hg (by rw [e0]; exact hc) hcm hcs
    rw [← strsC_dec, List.length_map, hlen]
    rw [e0] at ho
    exact ho
theorem compact_strs (B : Nat) (v : Value) (l : List ByteArray) (w : World) (h : w.ownsRow B 9 1 v l.length (strsC l)) (hl : l.length ≤ 1000000000) :
    Calls Tryz.prog 99 #[v] w fun e w' => ∃ (v' : Value) (l' : List ByteArray), e = .returned v' ∧ l' = ((Lib.compact (l.map fun p => p.data.toList)).map fun x => ⟨x.toArray⟩) ∧ l'.length ≤ l.length ∧ (∃ a c, v' = .slice a l'.length c) ∧ w.grownBy w' v.ownBlock ∧ w'.ownsRow B 9 1 v' l'.length (strsC l') := by
  rw [strsC_enc] at h
  rcases h.2 with ⟨rfl, h0⟩ | ⟨g, cap, cur, rfl, hb, hg, hc, hcm, hcs, ht⟩
  · obtain rfl : l = [] := List.length_eq_zero_iff.1 h0
    refine (Tryz.slices_Compact_string_empty none 0 w).mono ?_
    rintro e w' ⟨rfl, rfl⟩
    exact ⟨_, [], rfl, rfl, Nat.le_refl _, ⟨_, _, rfl⟩, World.grownBy.refl _ _, World.ownsRow_nil _ _ _ _⟩
  · have e0 : (l.map fun p => p.data.toList).length = l.length := List.length_map _
    generalize hzs : (l.map fun p => p.data.toList) = zs at *
    have hlc : (Lib.compact zs).length ≤ zs.length := Lib.compact_length_le zs
    have hq := Tryz.slices_Compact_string g 0 cap zs w (holds_of_block hg (by rw [e0]; simpa using ht)) (by omega) (by rw [e0]; exact hc)
    rw [e0] at hq
    refine hq.mono ?_
    rintro e w' ⟨rfl, q, rfl⟩
    have e1 : ∀ d : Array (List UInt8), putRow encStr (Sort.ahead w q) g 0 d = grow (putRow encStr (Sort.ahead w q) g 0 d) #[] := fun d => (grow_empty _).symm
    rw [e1]
    have hpl : (Lib.compact zs ++ List.replicate (l.length - (Lib.compact zs).length) []).length = zs.length := by simp; omega
    have hown := ownsRow_sorted (n := q) (os := #[]) (base := B) (ss := zs) hpl hb hg (by rw [e0]; exact hc) hcm hcs
    refine ⟨_, _, rfl, rfl, by rw [List.length_map]; omega, ⟨_, _, by rw [List.length_map]⟩, grownBy_sorted _, ?_⟩
    rw [← strsC_dec, List.length_map]
    rcases hown.2 with ⟨h1, _⟩ | ⟨g2, cap2, cur2, h1, h2, h3, h4, h5, h6, h7⟩
    · cases h1
    · cases h1
      refine ⟨by simp, .inr ⟨g, cap, cur2, rfl, h2, h3, by omega, h5, h6, ?_⟩⟩
      have h8 := congrArg (List.take (Lib.compact zs).length) h7
      rw [List.take_take, Nat.mul_one, Nat.min_eq_left hlc, List.map_append, List.take_append_of_le_length (by simp), List.take_of_length_le (l := List.map _ _) (by simp)] at h8
      rw [Nat.mul_one]
      exact h8
end Go.Proofs.YtnjiibiafhnmgaaGreatDoor

namespace Go.Proofs.YtnjiibiafhnmgaaGreatDoor
open Go Go.Lib

theorem less_le {x y z : List UInt8} (h1 : Op.bytesLess y x = false) (h2 : Op.bytesLess z y = false) : Op.bytesLess z x = false := by
  cases h : Op.bytesLess z x with
  | false => rfl
  | true =>
    cases g : Op.bytesLess x y with
    | true => rw [less_trans z x y h g] at h2; cases h2
    | false => rw [less_tri x y g h1] at h; rw [h] at h2; cases h2
theorem compactS_incr (d : Array (List UInt8)) (hs : ∀ i j, i ≤ j → j < d.size → Op.bytesLess d[j]! d[i]! = false) : ∀ m, m ≤ d.size →
    (compactUpTo d m).Pairwise (fun a b => Op.bytesLess a b = true) ∧ (∀ x ∈ compactUpTo d m, ∃ j, j < m ∧ d[j]! = x) ∧ (∀ j, j < m → d[j]! ∈ compactUpTo d m)
  | 0, _ => by simp [compactUpTo]
  | m + 1, hm => by
    obtain ⟨h1, h2, h3⟩ := compactS_incr d hs m (by omega)
    rw [compactUpTo_succ]
    by_cases hk : keeps d m = true
    · rw [if_pos hk]
      refine ⟨?_, ?_, ?_⟩
      · rw [List.pairwise_append]
        refine ⟨h1, by simp, fun x hx y hy => ?_⟩
        obtain ⟨j, hj, rfl⟩ := h2 x hx
        rw [List.mem_singleton] at hy
        subst hy
        unfold keeps at hk
        simp only [decide_eq_true_eq] at hk
        have h0 : d[m]! ≠ d[m - 1]! := by
          rcases hk with hk | hk
          · omega
          · exact hk
        have ha := hs j (m - 1) (by omega) (by omega)
        have hb := hs (m - 1) m (by omega) (by omega)
        have hlt : Op.bytesLess d[m - 1]! d[m]! = true := by
          cases h : Op.bytesLess d[m - 1]! d[m]! with
          | true => rfl
          | false => exact absurd (less_tri _ _ hb h) h0
        cases g : Op.bytesLess d[j]! d[m - 1]! with
        | true => exact less_trans _ _ _ g hlt
        | false => rw [less_tri _ _ g ha]; exact hlt
      · intro x hx
        rcases List.mem_append.1 hx with hx | hx
        · obtain ⟨j, hj, e⟩ := h2 x hx; exact ⟨j, by omega, e⟩
        · rw [List.mem_singleton] at hx; exact ⟨m, by omega, hx.symm⟩
      · intro j hj
        by_cases e : j = m
        · subst e; simp
        · exact List.mem_append_left _ (h3 j (by omega))
    · rw [if_neg hk, List.append_nil]
      refine ⟨h1, fun x hx => ?_, fun j hj => ?_⟩
      · obtain ⟨j, hj, e⟩ := h2 x hx; exact ⟨j, by omega, e⟩
      · by_cases e : j = m
        · subst e
          unfold keeps at hk
          simp only [decide_eq_true_eq, not_or, ne_eq, Decidable.not_not] at hk
          rw [hk.2]
          exact h3 (j - 1) (by omega)
        · exact h3 j (by omega)
theorem bytesLess_eqL (x : List UInt8) : ∀ y, Op.bytesLess x y = decide (x < y) := by
  induction x with
  | nil => intro y; cases y <;> simp [Op.bytesLess]
  | cons a x ih =>
    intro y
    cases y with
    | nil => simp [Op.bytesLess]
    | cons b y =>
      rw [Op.bytesLess, ih y]
      rw [Bool.eq_iff_iff]
      simp only [Bool.or_eq_true, Bool.and_eq_true, decide_eq_true_eq, beq_iff_eq, List.cons_lt_cons_iff]
theorem le_less (x y : List UInt8) : decide (x ≤ y) = !Op.bytesLess y x := by
  rw [bytesLess_eqL]
  by_cases h : y < x
  · rw [decide_eq_true h, decide_eq_false (fun g => absurd h (List.not_lt.2 g))]; rfl
  · rw [decide_eq_false h, decide_eq_true (List.not_lt.1 h)]; rfl
theorem sort_compact {l t : List ByteArray} (ht : IncB t) (hm : ∀ p, p ∈ t ↔ p ∈ l) : ((compact ((((l.map fun p => p.data.toList).mergeSort fun x y => decide (x ≤ y)).map fun x => (⟨x.toArray⟩ : ByteArray)).map fun p => p.data.toList)).map fun x => (⟨x.toArray⟩ : ByteArray)) = t := by
  rw [List.map_map, List.map_congr_left (f := (fun p : ByteArray => p.data.toList) ∘ fun x : List UInt8 => (⟨x.toArray⟩ : ByteArray)) (g := id) (fun x _ => by simp), List.map_id]
  have hp := List.mergeSort_perm (l.map fun p => p.data.toList) (fun x y => decide (x ≤ y))
  have hs := List.pairwise_mergeSort (le := fun (x y : List UInt8) => decide (x ≤ y)) (fun a b c h1 h2 => by
    simp only [le_less, Bool.not_eq_true'] at *
    exact less_le h1 h2) (fun a b => by
    simp only [le_less]
    cases h : Op.bytesLess b a with
    | false => rfl
    | true => rw [less_asymm b a h]; rfl) (l.map fun p => p.data.toList)
  generalize (l.map fun p => p.data.toList).mergeSort (fun x y => decide (x ≤ y)) = s at *
  have key := compactS_incr s.toArray (fun i j hij hj => by
    have hj' : j < s.length := by simpa using hj
    rw [getElem!_pos s.toArray i (by simp; omega), getElem!_pos s.toArray j (by simpa using hj')]
    simp only [List.getElem_toArray]
    by_cases e : i = j
    · subst e
      cases h : Op.bytesLess s[i] s[i] with
      | false => rfl
      | true => have := less_asymm _ _ h; rw [h] at this; cases this
    · have := List.pairwise_iff_getElem.1 hs i j (by omega) hj' (by omega)
      simpa [le_less] using this) s.length (by simp)
  unfold compact
  refine IncB.unique ?_ ht fun p => ?_
  · unfold IncB
    rw [List.pairwise_map]
    refine key.1.imp fun {a b} h => ?_
    unfold ltB
    rw [ByteArray.toList_eq, ByteArray.toList_eq]
    exact h
  · rw [hm, List.mem_map]
    have hms : ∀ x, x ∈ compactUpTo s.toArray s.length ↔ x ∈ s := fun x => by
      constructor
      · intro hx
        obtain ⟨j, hj, e⟩ := key.2.1 x hx
        rw [getElem!_pos s.toArray j (by simpa using hj)] at e
        simp only [List.getElem_toArray] at e
        rw [← e]
        exact List.getElem_mem hj
      · intro hx
        obtain ⟨j, hj, e⟩ := List.mem_iff_getElem.1 hx
        have := key.2.2 j hj
        rw [getElem!_pos s.toArray j (by simpa using hj)] at this
        simp only [List.getElem_toArray] at this
        rwa [e] at this
    constructor
    · rintro ⟨x, hx, rfl⟩
      have h1 := hp.mem_iff.1 ((hms x).1 hx)
      obtain ⟨q, hq, rfl⟩ := List.mem_map.1 h1
      exact hq
    · intro hpl
      exact ⟨p.data.toList, (hms _).2 (hp.mem_iff.2 (List.mem_map.2 ⟨p, hpl, rfl⟩)), rfl⟩
end Go.Proofs.YtnjiibiafhnmgaaGreatDoor

namespace Go.Proofs.YtnjiibiafhnmgaaGreatDoor
set_option linter.unusedVariables false
set_option linter.unusedSimpArgs false

def backK (l : List (Int × Int)) (a : Int) : Nat → Nat
  | 0 => 0
  | k + 1 => if a < (l.getD k (0, 0)).1 then backK l a k else k + 1
def insS (l : List (Int × Int)) (x : Int × Int) : List (Int × Int) := l.take (backK l x.1 l.length) ++ ([x] ++ l.drop (backK l x.1 l.length))
def insAll (l : List (Int × Int)) : List (Int × Int) := l.foldl insS []
end Go.Proofs.YtnjiibiafhnmgaaGreatDoor
