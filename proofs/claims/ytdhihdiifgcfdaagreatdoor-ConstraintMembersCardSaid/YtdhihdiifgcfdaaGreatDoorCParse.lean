/- Contract of the constraint's Parse. -/
import Derived.Test.YtdhihdiifgcfdaaGreatDoorCSpanR
import Derived.Test.YtdhihdiifgcfdaaGreatDoorCCanon1
import Derived.Test.YtdhihdiifgcfdaaGreatDoorCMap
namespace Go.Proofs.YtdhihdiifgcfdaaGreatDoor
set_option linter.unusedVariables false
set_option linter.unusedSimpArgs false
open Go Go.RowKit

/-- a set, an error, and no old cell has turned. -/
def SetErr (w : World) (r : List (Int × Int) × Int) (e : Ending) (w' : World) : Prop := ∃ v', e = .returned (.tuple #[v', .int .i64 r.2]) ∧ EdgesOf w'.heap.size v' r.1 w' ∧ Below w.heap.size w w'
theorem edges_nil (B : Nat) (W : World) (ao : Option Addr) (c : Nat) : EdgesOf B (.slice ao 0 c) [] W := ⟨ao, c, rfl, fun i x hx => by simp at hx⟩
theorem setErr_mk {w w' : World} {r : List (Int × Int) × Int} {l : List (Int × Int)} {c : Int} {v : Value} {e : Ending} (he : e = .returned (.tuple #[v, .int .i64 c])) (hr : r = (l, c)) (hE : EdgesOf w'.heap.size v l w') (hb : Below w.heap.size w w') : SetErr w r e w' := by
  subst hr
  exact ⟨v, he, hE, hb⟩
theorem SplitBar_any (s : ByteArray) (w : World) (hs : s.size < 4294967281) (hm : MaxOk w) :
    Calls Tryz.prog 49 #[.string s, .string ⟨#[124]⟩] w fun e w' => e = .returned (.slice (some ⟨w.heap.size, 0, none⟩) (barB s).length (barB s).length) ∧ w.alloc (.cells ((barB s).map Value.string).toArray 9) = w' := by
  obtain ⟨m, hm⟩ := hm
  refine (Tryz.strings_Split s ⟨#[124]⟩ m w hs hm (by decide)).mono ?_
  rintro e w' ⟨rfl, rfl⟩
  rw [count_barB, split_barB]
  exact ⟨rfl, rfl⟩
theorem Trim_any (s : ByteArray) (w : World) (hs : s.size ≤ 1000000) : Calls Tryz.prog 50 #[.string s, .string ⟨#[32]⟩] w fun e w' => e = .returned (.string ⟨(Lib.trimB s.data.toList 32).toArray⟩) ∧ Below w.heap.size w w' :=
  (Tryz.strings_Trim_one s 32 (by decide) w (by omega)).mono fun e w' h => ⟨h.1, h.2.elim (fun h => by rw [h]; exact Below.refl _ _) (fun h => by rw [h]; exact (Below.refl _ _).drew)⟩
theorem trim_len (l : List UInt8) : (Lib.trimB l 32).length ≤ l.length := by
  unfold Lib.trimB Lib.trimLeftB Lib.trimRightB
  refine Nat.le_trans (List.dropWhile_sublist _).length_le ?_
  rw [List.length_reverse]
  refine Nat.le_trans (List.dropWhile_sublist _).length_le ?_
  rw [List.length_reverse]
  exact Nat.le_refl _
theorem alts_get {s : ByteArray} {k : Nat} (hk : k < (barB s).length) : (altsL s.data.toList)[k]? = some (Lib.trimB ((barB s)[k].data.toList) 32) := by
  have e : altsL s.data.toList = (barB s).map fun b => Lib.trimB b.data.toList 32 := by
    unfold altsL
    rw [← barB_data, List.map_map]
    rfl
  rw [e, List.getElem?_map]
  simp [hk]
theorem alts_len (s : ByteArray) : (altsL s.data.toList).length = (barB s).length := by
  unfold altsL
  rw [← barB_data, List.length_map, List.length_map]
set_option maxRecDepth 100000 in
set_option maxHeartbeats 16000000 in
theorem cParse_any (s : ByteArray) (m : Int) (w : World) (hm : MaxOk w) : Calls Tryz.prog 16 #[.string s, .int .i64 m] w (SetErr w (parseC m s.data.toList)) := by
  have hsz := Lib.size_eq s
  by_cases h0 : 65536 < s.size
  · have HE := Lib.hid (show parseC m s.data.toList = ([], 7) by unfold parseC; rw [if_pos (.inl (by omega))])
    rw [HE.out]
    have h1 : (65536 : Int) < (s.size : Int) := by omega
    clear hsz
    go_enter Tryz.func16, Tryz.ntmps16
    go_wp2_with fail
    go_ret2
    exact ⟨_, rfl, edges_nil _ _ _ _, (by repeat (first | exact Below.refl _ _ | refine Below.drew ?_ | refine Below.alloc ?_ (by simp <;> omega) _ | refine Below.setCell ?_ (by simp <;> omega) _))⟩
  · have h1 : ¬ (65536 : Int) < (s.size : Int) := by omega
    have HCN := Lib.hid (fun W => (Tryz.strings_Count_one s 124 W).mono fun e w' h => (⟨h.1, h.2.symm⟩ : e = .returned (.int .i64 (s.data.toList.count 124 : Nat)) ∧ W = w'))
    have hbl : (barB s).length = s.data.toList.count 124 + 1 := by rw [← alts_len, ← bars_count]; unfold altsL; rw [List.length_map]
    by_cases h2 : 1024 ≤ s.data.toList.count 124
    · have HE := Lib.hid (show parseC m s.data.toList = ([], 7) by unfold parseC; rw [if_pos (.inr h2)])
      rw [HE.out]
      generalize s.data.toList.count 124 = c at *
      have h3 : (1024 : Int) ≤ (c : Int) := by omega
      clear hsz hbl
      go_enter Tryz.func16, Tryz.ntmps16
      go_wp2_with ((with_reducible refine (HCN.out _).mono ?_); rintro e w1 ⟨rfl, rfl⟩)
      go_ret2
      exact ⟨_, rfl, edges_nil _ _ _ _, (by repeat (first | exact Below.refl _ _ | refine Below.drew ?_ | refine Below.alloc ?_ (by simp <;> omega) _ | refine Below.setCell ?_ (by simp <;> omega) _))⟩
    · have hE0 : parseC m s.data.toList = if ¬ (0 ≤ m ∧ m ≤ 999) then ([], 2) else if errL m (altsL s.data.toList) ≠ 0 then ([], errL m (altsL s.data.toList)) else (canon ((altsL s.data.toList).map fun a => (altV m a).1), 0) := by
        unfold parseC
        rw [if_neg (by omega)]
      generalize s.data.toList.count 124 = c at *
      have h3 : ¬ (1024 : Int) ≤ (c : Int) := by omega
      by_cases m0 : m < 0
      · have HE := Lib.hid (show parseC m s.data.toList = ([], 2) by rw [hE0, if_pos (by omega)])
        rw [HE.out]
        clear hsz hbl hE0
        go_enter Tryz.func16, Tryz.ntmps16
        go_wp2_with ((with_reducible refine (HCN.out _).mono ?_); rintro e w1 ⟨rfl, rfl⟩)
        go_ret2
        exact ⟨_, rfl, edges_nil _ _ _ _, (by repeat (first | exact Below.refl _ _ | refine Below.drew ?_ | refine Below.alloc ?_ (by simp <;> omega) _ | refine Below.setCell ?_ (by simp <;> omega) _))⟩
      · by_cases m1 : 999 < m
        · have HE := Lib.hid (show parseC m s.data.toList = ([], 2) by rw [hE0, if_pos (by omega)])
          rw [HE.out]
          clear hsz hbl hE0
          go_enter Tryz.func16, Tryz.ntmps16
          go_wp2_with ((with_reducible refine (HCN.out _).mono ?_); rintro e w1 ⟨rfl, rfl⟩)
          go_ret2
          exact ⟨_, rfl, edges_nil _ _ _ _, (by repeat (first | exact Below.refl _ _ | refine Below.drew ?_ | refine Below.alloc ?_ (by simp <;> omega) _ | refine Below.setCell ?_ (by simp <;> omega) _))⟩
        · rw [if_neg (by omega)] at hE0
          obtain ⟨r, hr⟩ : ∃ r, parseC m s.data.toList = r := ⟨_, rfl⟩
          rw [hr] at hE0 ⊢
          have HE := Lib.hid hE0
          have HSP := Lib.hid (SplitBar_any s w (by omega) hm)
          have HAL := Lib.hid (alts_len s)
          have HAG := Lib.hid (fun k hk => @alts_get s k hk)
          have HBS := Lib.hid (barB_le s)
          have HM1 := Lib.hid (hm.alloc (.cells ((barB s).map Value.string).toArray 9))
          have HCE := Lib.hid (fun k (hk : k < (barB s).length) => show (w.alloc (.cells ((barB s).map Value.string).toArray 9)).cell? ⟨w.heap.size, k, none⟩ = some (.string (barB s)[k]) by
            rw [cell_of_row _ _ _ _ _ _ (heap_alloc_new w _)]
            simp [hk])
          generalize altsL s.data.toList = al at *
          generalize barB s = ps at *
          have hpl : ps.length ≤ 1024 := by omega
          clear hsz hbl hE0 hr hm
          go_enter Tryz.func16, Tryz.ntmps16
          go_wp2_with ((with_reducible refine (HCN.out _).mono ?_); rintro e w1 ⟨rfl, rfl⟩)
          (with_reducible refine HSP.out.mono ?_)
          rintro e w1 ⟨rfl, rfl⟩
          obtain ⟨w1, hw1⟩ : ∃ w1, w.alloc (.cells (ps.map Value.string).toArray 9) = w1 := ⟨_, rfl⟩
          have hb0 : w.heap.size < w1.heap.size := by rw [← hw1]; simp
          have HB1 : Hid (Below w.heap.size w w1) := Lib.hid (by rw [← hw1]; exact (Below.refl _ _).alloc (Nat.le_refl _) _)
          rw [hw1] at HM1 HCE ⊢
          clear hw1
          go_wp2_with fail
          go_loopw [6, 28] (fun o p wr => ∃ k : Nat, k ≤ ps.length ∧ p = .int .i64 k ∧ Hid (∀ a ∈ al.take k, (altV m a).2 = 0) ∧ Hid (wr.ownsRow w1.heap.size 49 2 o (collP m (al.take k)).length (edgeCells (collP m (al.take k)))) ∧ Hid (Below w1.heap.size w1 wr)) (fun _ p _ => ps.length - (intOf p).toNat)
          case atStart => exact ⟨0, Nat.zero_le _, rfl, Lib.hid (by simp), Lib.hid (World.ownsRow_nil _ _ _ _), Lib.hid (Below.refl _ _)⟩
          case round =>
            obtain ⟨k, hk, rfl, HOK, HO, HB⟩ := hrel
            have hszr := HB.out.size
            by_cases hlt : k < ps.length
            · have hc := (HB.out.cell (p := ⟨w.heap.size, k, none⟩) hb0).trans (HCE.out k hlt)
              have hal : al[k]? = some (Lib.trimB ps[k].data.toList 32) := HAG.out k hlt
              have hps : ps[k].size ≤ 65536 := by have := HBS.out ps[k] (List.getElem_mem hlt); omega
              generalize ps[k] = pk at *
              have HTR := Lib.hid (Trim_any pk wr (by omega))
              obtain ⟨t, ht⟩ : ∃ t : ByteArray, ⟨(Lib.trimB pk.data.toList 32).toArray⟩ = t := ⟨_, rfl⟩
              have htl : Lib.trimB pk.data.toList 32 = t.data.toList := by rw [← ht]
              have hts : t.size ≤ 65536 := by rw [Lib.size_eq, ← htl]; have := trim_len pk.data.toList; rw [← Lib.size_eq] at this; omega
              rw [ht] at HTR
              rw [htl] at hal
              have HAK := Lib.hid hal
              clear ht htl hal
              go_wp2_with fail
              (with_reducible refine HTR.out.mono ?_)
              rintro e w2 ⟨rfl, hb2⟩
              have HB2 := Lib.hid (HB.out.trans (hb2.mono hszr))
              have HO2 := Lib.hid (own_far HO.out (fun j hj => hb2.block j (HO.out.lt j hj).2))
              have hz2 := hb2.size
              clear hb2
              have hkal : k < al.length := (List.getElem?_eq_some_iff.1 HAK.out).1
              have HTK : Hid (al.take (k + 1) = al.take k ++ [t.data.toList]) := Lib.hid (by
                rw [List.take_succ_eq_append_getElem hkal]
                have := (List.getElem?_eq_some_iff.1 HAK.out).2
                rw [this])
              have hcl : (collP m (al.take k)).length ≤ k := Nat.le_trans (collP_len _ _) (List.length_take_le _ _)
              have hk1 : IntKind.i64.wrap ((k : Int) + 1) = (k : Int) + 1 := IntWalk.i64_in _ (by omega)
              by_cases hn : t.data.toList = [110, 111, 110, 101]
              · have hq : (t.toList == [110, 111, 110, 101]) = true := by rw [ByteArray.toList_eq, hn]; rfl
                have HA := Lib.hid (show altV m t.data.toList = ((0, 0), 0) by unfold altV; rw [if_pos hn])
                have HN := Lib.hid hn
                clear hn hk1
                go_wp2_with fail
                go_roundw
                case rel =>
                  refine ⟨k + 1, by omega, by go_num, Lib.hid ?_, Lib.hid ?_, HB2⟩
                  · rw [HTK.out]
                    intro a ha
                    rcases List.mem_append.1 ha with ha | ha
                    · exact HOK.out a ha
                    · rcases List.mem_singleton.1 ha with rfl
                      rw [HA.out]
                  · rw [HTK.out, collP_snoc, if_pos HN.out]
                    exact HO2.out
                case measure => simp [intOf]; omega
              · have hq : (t.toList == [110, 111, 110, 101]) = false := by rw [ByteArray.toList_eq]; simpa using hn
                have HT2 := Lib.hid (show collP m (al.take (k + 1)) = collP m (al.take k) ++ [(altV m t.data.toList).1] by rw [HTK.out, collP_snoc, if_neg hn])
                by_cases hst : t.data.toList = [42]
                · have hq2 : (t.toList == [42]) = true := by rw [ByteArray.toList_eq, hst]; rfl
                  have HA := Lib.hid (show altV m t.data.toList = ((0, 1000000), 0) by unfold altV; rw [if_neg hn, if_pos hst])
                  have HBA : Hid (∀ W1, (w2.alloc (.cells #[.int .i64 0, .int .i64 1000000] 49)).grownBy W1 u6.ownBlock → Below w1.heap.size w1 W1) := Lib.hid (fun W1 hg => (HB2.out.alloc HB2.out.size _).grown hg (by have := HB2.out.size; simp; omega) (fun b hb => (HO2.out.lt b hb).1))
                  have hz3 := HB2.out.size
                  obtain ⟨i0, hi0', hz0, hz1, hz2'⟩ := info_parts info_edges
                  clear hn hst
                  go_wp2_with (at_builtin; refine wpList_append_own _ rfl _ _ 32 rfl w1.heap.size 49 i0 _ 2 16 Tryz.underlying32 hi0' hz0 hz1 hz2' rfl (by decide) u6 (collP m (al.take k)).length _ (by rfl) (HO2.out.alloc _) ⟨w2.heap.size, 0, none⟩ 1 1 [.int .i64 0, .int .i64 1000000] (by rfl) (by rfl) (World.news_of_block (cs := #[.int .i64 0, .int .i64 1000000]) (t := 49) (fr := (0, 0)) (heap_alloc_new w2 _)) (by simp [Value.oneCell']) (by unfold maxLen; omega) (by omega) (by simp; omega) ?_; intro v' w3 hown' hgrow _; have HOW3 := Lib.hid hown'; have HBB3 := Lib.hid (HBA.out _ hgrow); clear hown' hgrow; obtain ⟨gg, cap, rfl⟩ := ownsRow_succ HOW3.out)
                  go_roundw
                  case rel =>
                    refine ⟨k + 1, by omega, by go_num, Lib.hid ?_, Lib.hid ?_, HBB3⟩
                    · rw [HTK.out]
                      intro a ha
                      rcases List.mem_append.1 ha with ha | ha
                      · exact HOK.out a ha
                      · rcases List.mem_singleton.1 ha with rfl
                        rw [HA.out]
                    · rw [HT2.out, HA.out, edgeCells_snoc, List.length_append]
                      exact HOW3.out
                  case measure => simp [intOf]; omega
                · have hq2 : (t.toList == [42]) = false := by rw [ByteArray.toList_eq]; simpa using hst
                  have HA := Lib.hid (show altV m t.data.toList = if (spanP m t.data.toList).2.1 = true then ((0, 0), 3) else if (spanP m t.data.toList).2.2 = true ∨ (spanP m t.data.toList).1.2 ≤ (spanP m t.data.toList).1.1 then ((0, 0), 1) else ((spanP m t.data.toList).1, 0) by unfold altV; rw [if_neg hn, if_neg hst])
                  have HMX : Hid (MaxOk w2) := Lib.hid (HM1.out.below HB2.out HM1.out.pos)
                  have hsp := span_any w2.heap.size m t (w2.alloc (.cells #[.int .i64 m, .bool false, .bool false] 66)) (by omega) (HMX.out.alloc _) (heap_alloc_new w2 _)
                  obtain ⟨⟨⟨x1, x2⟩, sy, ot⟩, hx⟩ : ∃ x, spanP m t.data.toList = x := ⟨_, rfl⟩
                  rw [hx] at hsp HA
                  simp only at hsp HA
                  have HSN := Lib.hid hsp
                  have HEV : Hid (∀ e : Int, e ≠ 0 → altV m t.data.toList = ((0, 0), e) → r = ([], e)) := Lib.hid (fun e he ha => by
                    have h4 : errL m al = e := by
                      have h5 := (List.getElem?_eq_some_iff.1 HAK.out).2
                      rw [errL_at hkal HOK.out (by rw [h5, ha]; exact he), h5, ha]
                    rw [HE.out, h4, if_pos he])
                  clear hn hst hsp hx
                  go_wp2_with fail
                  (with_reducible refine HSN.out.mono ?_)
                  rintro e w4 ⟨rfl, hR4, hg4⟩
                  obtain ⟨r0, r1, r2⟩ := hR4.cells
                  have hRl := hR4.lt
                  have hRne : w2.heap.size ≠ w4.heap.size := by omega
                  have HO4 := Lib.hid ((HO2.out.alloc (.cells #[.int .i64 m, .bool false, .bool false] 66)).kept hg4 (.inr (fun e => by have := (HO2.out.lt w2.heap.size e).2; omega)))
                  have HB4 : Hid (Below w1.heap.size w1 w4) := Lib.hid (gb_below (HB2.out.alloc HB2.out.size _) hg4 HB2.out.size (by have := HB2.out.size; simp; omega))
                  clear hR4 hg4
                  have hz4 := HB4.out.size
                  cases hsy : sy with
                  | true =>
                    rw [hsy] at r1 HA
                    have HR := Lib.hid (HEV.out 3 (by decide) HA.out)
                    clear hsy
                    go_wp2_with fail
                    go_ret2
                    exact setErr_mk rfl HR.out (edges_nil _ _ none 0) (HB1.out.trans ((HB4.out.alloc hz4 _).mono HB1.out.size))
                  | false =>
                    rw [hsy] at r1 HA
                    rw [if_neg Bool.false_ne_true] at HA
                    clear hsy
                    cases hot : ot with
                    | true =>
                      rw [hot] at r2 HA
                      rw [if_pos (.inl rfl)] at HA
                      have HR := Lib.hid (HEV.out 1 (by decide) HA.out)
                      clear hot
                      go_wp2_with fail
                      go_ret2
                      exact setErr_mk rfl HR.out (edges_nil _ _ none 0) (HB1.out.trans ((HB4.out.alloc hz4 _).mono HB1.out.size))
                    | false =>
                      rw [hot] at r2 HA
                      clear hot
                      by_cases hle : x2 ≤ x1
                      · rw [if_pos (.inr hle)] at HA
                        have HR := Lib.hid (HEV.out 1 (by decide) HA.out)
                        go_wp2_with fail
                        go_ret2
                        exact setErr_mk rfl HR.out (edges_nil _ _ none 0) (HB1.out.trans ((HB4.out.alloc hz4 _).mono HB1.out.size))
                      · rw [if_neg (fun h => h.elim Bool.false_ne_true hle)] at HA
                        obtain ⟨i0, hi0', hz0, hz1, hz2'⟩ := info_parts info_edges
                        have HBA : Hid (∀ W1, ((w4.alloc (.cells #[.int .i64 x1, .int .i64 x2] 49)).alloc (.cells #[.int .i64 x1, .int .i64 x2] 49)).grownBy W1 u6.ownBlock → Below w1.heap.size w1 W1) := Lib.hid (fun W1 hg => ((HB4.out.alloc hz4 _).alloc (by simp; omega) _).grown hg (by simp; omega) (fun b hb => (HO4.out.lt b hb).1))
                        go_wp2_with (at_builtin; refine wpList_append_own _ rfl _ _ 32 rfl w1.heap.size 49 i0 _ 2 16 Tryz.underlying32 hi0' hz0 hz1 hz2' rfl (by decide) u6 (collP m (al.take k)).length _ (by rfl) ((HO4.out.alloc _).alloc _) ⟨w4.heap.size + 1, 0, none⟩ 1 1 [.int .i64 x1, .int .i64 x2] (by rfl) (by rfl) (World.news_of_block (cs := #[.int .i64 x1, .int .i64 x2]) (t := 49) (fr := (0, 0)) (by have := heap_alloc_new (w4.alloc (.cells #[.int .i64 x1, .int .i64 x2] 49)) (.cells #[.int .i64 x1, .int .i64 x2] 49); rw [World.size_alloc] at this; exact this)) (by simp [Value.oneCell']) (by unfold maxLen; omega) (by omega) (by simp; omega) ?_; intro v' w5 hown' hgrow _; have HOW3 := Lib.hid hown'; have HBB3 := Lib.hid (HBA.out _ hgrow); clear hown' hgrow; obtain ⟨gg, cap, rfl⟩ := ownsRow_succ HOW3.out)
                        go_roundw
                        case rel =>
                          refine ⟨k + 1, by omega, by go_num, Lib.hid ?_, Lib.hid ?_, HBB3⟩
                          · rw [HTK.out]
                            intro a ha
                            rcases List.mem_append.1 ha with ha | ha
                            · exact HOK.out a ha
                            · rcases List.mem_singleton.1 ha with rfl
                              rw [HA.out]
                          · rw [HT2.out, HA.out, edgeCells_snoc, List.length_append]
                            exact HOW3.out
                        case measure => simp [intOf]; omega
            · have hkk : k = ps.length := by omega
              have hal : al.length = ps.length := HAL.out
              rw [hkk, ← hal, List.take_length] at HOK HO
              have hR : r = (canon (collP m al), 0) := by
                rw [HE.out, errL_none HOK.out, if_neg (by simp), collP_canon]
              have HR := Lib.hid hR
              have hcl := collP_len m al
              have HCN2 := Lib.hid (Canonical_any u6 (collP m al) wr (by omega) (own_edges HO.out))
              have hsv : ∃ a n c, u6 = .slice a n c := (own_form HO.out).elim fun a h => h.elim fun c h => ⟨a, _, c, h⟩
              obtain ⟨va, vn, vc, rfl⟩ := hsv
              clear hR hal hkk
              go_wp2_with fail
              (with_reducible refine HCN2.out.mono ?_)
              rintro e w3 ⟨v3, rfl, hE3, hb3⟩
              have HE3 := Lib.hid hE3
              have HB3 := Lib.hid (HB1.out.trans ((HB.out.trans (hb3.mono hszr)).mono HB1.out.size))
              clear hE3 hb3
              go_wp2_with fail
              go_ret2
              exact setErr_mk rfl HR.out HE3.out HB3.out
end Go.Proofs.YtdhihdiifgcfdaaGreatDoor
