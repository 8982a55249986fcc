/- Contract of the constraint's Canonical. -/
import Derived.Test.YtdhihdiifgcfdaaGreatDoorCSortS
import Derived.Test.YtdhihdiifgcfdaaGreatDoorCPlain
namespace Go.Proofs.YtdhihdiifgcfdaaGreatDoor
set_option linter.unusedVariables false
set_option linter.unusedSimpArgs false
open Go Go.RowKit Go.Sort

theorem clampS_snoc (l : List (Int × Int)) (x : Int × Int) : clampS (l ++ [x]) = if (clamp x).1 < (clamp x).2 then clampS l ++ [clamp x] else clampS l := by
  unfold clampS
  rw [List.map_append, List.filter_append]
  by_cases h : (clamp x).1 < (clamp x).2 <;> simp [h]

set_option maxRecDepth 100000 in
set_option maxHeartbeats 4000000 in
theorem Canonical_any (v : Value) (s : List (Int × Int)) (w : World) (hs : s.length ≤ 1000000000) (hE : EdgesOf w.heap.size v s w) :
    Calls Tryz.prog 30 #[v] w fun e w' => ∃ v', e = .returned v' ∧ EdgesOf w'.heap.size v' (canon s) w' ∧ Below w.heap.size w w' := by
  obtain ⟨ao, ec, rfl, hE⟩ := hE
  have HE := Lib.hid hE
  clear hE
  obtain ⟨i0, hi0', hz0, hz1, hz2⟩ := info_parts info_edges
  go_enter Tryz.func30, Tryz.ntmps30
  go_wp2_with fail
  go_loopw [3, 11] (fun o p wr => ∃ (k : Nat), k ≤ s.length ∧ p = .int .i64 k ∧ Hid (wr.ownsRow w.heap.size 49 2 o (clampS (s.take k)).length (edgeCells (clampS (s.take k)))) ∧ Hid (Below w.heap.size w wr)) (fun _ p _ => s.length - (intOf p).toNat)
  case atStart => exact ⟨0, by omega, rfl, Lib.hid (World.ownsRow_nil _ _ _ _), Lib.hid (Below.refl _ _)⟩
  case round =>
    obtain ⟨k, hk, rfl, HO, HB⟩ := hrel
    have hszr := HB.out.size
    by_cases hlt : k < s.length
    · obtain ⟨b, off, rfl, hb, hc1, hc2⟩ := HE.out k s[k] (by simp [hlt])
      have hc1 := (HB.out.cell (p := ⟨b, off + k * 2, none⟩) hb).trans hc1
      have hc2 := (HB.out.cell (p := ⟨b, off + k * 2 + 1, none⟩) hb).trans hc2
      have HT : Hid (clampS (s.take (k + 1)) = if (clamp s[k]).1 < (clamp s[k]).2 then clampS (s.take k) ++ [clamp s[k]] else clampS (s.take k)) := Lib.hid (by rw [List.take_succ_eq_append_getElem hlt, clampS_snoc])
      have hlen : (clampS (s.take k)).length ≤ k := Nat.le_trans (clampS_len _) (List.length_take_le _ _)
      obtain ⟨⟨x1, x2⟩, hx⟩ : ∃ x, x = s[k] := ⟨_, rfl⟩
      rw [← hx] at hc1 hc2 HT
      clear hx
      simp only at hc1 hc2
      generalize clampS (s.take k) = cs at *
      by_cases hin : (clamp (x1, x2)).1 < (clamp (x1, x2)).2
      · have hin2 : max x1 0 < min x2 1000000 := hin
        have HB2 : Hid (∀ W1, ((wr.alloc (.cells #[intC (max x1 0), intC (min x2 1000000)] 49)).alloc (.cells #[intC (max x1 0), intC (min x2 1000000)] 49)).grownBy W1 u3.ownBlock → Below w.heap.size w W1) := Lib.hid (fun W1 hg => ((HB.out.alloc hszr _).alloc (by simp; omega) _).grown hg (by simp; omega) (fun b hb => (HO.out.lt b hb).1))
        go_wp2_with (at_builtin; refine wpList_append_own _ rfl _ _ 32 rfl w.heap.size 49 i0 _ 2 16 Tryz.underlying32 hi0' hz0 hz1 hz2 rfl (by decide) u3 cs.length _ (by rfl) ((HO.out.alloc _).alloc _) ⟨wr.heap.size + 1, 0, none⟩ 1 1 [intC (max x1 0), intC (min x2 1000000)] (by rfl) (by rfl) (World.news_of_block (cs := #[intC (max x1 0), intC (min x2 1000000)]) (t := 49) (fr := (0, 0)) (by have := heap_alloc_new (wr.alloc (.cells #[intC (max x1 0), intC (min x2 1000000)] 49)) (.cells #[intC (max x1 0), intC (min x2 1000000)] 49); rw [World.size_alloc] at this; exact this)) (by simp [Value.oneCell']) (by unfold maxLen; omega) (by omega) (by simp; omega) ?_; intro v' w3 hown' hgrow _; have HOW2 := Lib.hid hown'; have HBB2 := Lib.hid (HB2.out _ hgrow); clear hown' hgrow; obtain ⟨gg, cap, rfl⟩ := ownsRow_succ HOW2.out)
        go_roundw
        case rel =>
          refine ⟨k + 1, by omega, by go_num, Lib.hid ?_, HBB2⟩
          rw [HT.out, if_pos hin, edgeCells_snoc, List.length_append]
          exact HOW2.out
        case measure => simp [intOf]; omega
      · have hin2 : ¬ max x1 0 < min x2 1000000 := hin
        go_wp2_with fail
        go_roundw
        case rel =>
          refine ⟨k + 1, by omega, by go_num, Lib.hid ?_, Lib.hid (HB.out.alloc hszr _)⟩
          rw [HT.out, if_neg hin]
          exact HO.out.alloc _
        case measure => simp [intOf]; omega
    · have hkk : k = s.length := by omega
      subst hkk
      rw [List.take_length] at HO
      have hcl : (clampS s).length ≤ s.length := clampS_len s
      have hs2 := sort_spans w.heap.size u3 (clampS s) wr HO.out (by omega) (fun x hx => by have := clampS_mem hx; omega)
      have HS2 := Lib.hid hs2
      have hvs : ∃ a n c, u3 = .slice a n c := by
        rcases HO.out.2 with ⟨rfl, _⟩ | ⟨g, cap, cur, rfl, _⟩
        · exact ⟨_, _, _, rfl⟩
        · exact ⟨_, _, _, rfl⟩
      obtain ⟨va, vn, vc, rfl⟩ := hvs
      clear hs2
      go_wp2_with fail
      refine HS2.out.mono ?_
      rintro e w4 ⟨rfl, d, hp, hsd, hg4, ho4⟩
      have HP := Lib.hid hp
      have HSD := Lib.hid hsd
      have HB4 : Hid (Below w.heap.size w w4) := Lib.hid (HB.out.grown hg4 hszr (fun b hb => (HO.out.lt b hb).1))
      have hdl : d.length = (clampS s).length := hp.length_eq
      have HDL := Lib.hid hdl
      have hdl2 : d.length ≤ s.length := by omega
      have hE5 : va = none ∧ vn = 0 ∧ vc = 0 ∧ d = [] ∨ ∃ g, va = some ⟨g, 0, none⟩ := by
        rcases ho4.2 with ⟨h1, h2⟩ | ⟨g, cap, cur, h1, _⟩
        · cases h1
          exact .inl ⟨rfl, rfl, rfl, List.length_eq_zero_iff.1 (by omega)⟩
        · cases h1
          exact .inr ⟨g, rfl⟩
      rcases hE5 with ⟨rfl, rfl, rfl, rfl⟩ | ⟨g, rfl⟩
      · have HC : Hid ([] = canon s) := Lib.hid (merge_canon HP.out List.Pairwise.nil)
        clear HO HB HS2 hp hsd hg4 ho4 hdl HDL hszr
        go_wp2_with fail
        go_loopw [6, 36] (fun n p wr => p = .int .i64 0 ∧ n = .int .i64 0 ∧ Hid (Below w.heap.size w wr)) (fun _ _ _ => 0)
        case atStart => exact ⟨rfl, rfl, HB4⟩
        case round =>
          clear HB4
          obtain ⟨rfl, rfl, HB⟩ := hrel
          go_wp2_with fail
          go_ret
          exact ⟨_, rfl, by rw [← HC.out]; exact ⟨none, 0, rfl, fun i x hx => by simp at hx⟩, HB.out⟩
      · have ho5 : w4.ownsRow w.heap.size 49 2 (.slice (some ⟨g, 0, none⟩) vn vc) vn (edgeCells d) := by
          have e : vn = (clampS s).length := by
            rcases ho4.2 with ⟨h1, _⟩ | ⟨g', cap', cur', h1, _⟩
            · cases h1
            · cases h1; rfl
          rw [e] at ho4 ⊢
          exact ho4
        have hst := MidRow.start ho5
        clear ho5
        obtain ⟨hvn, hmid, hgb, hcap⟩ := hst
        subst hvn
        have HM := Lib.hid hmid
        clear HO HB HS2 hp hsd hg4 ho4 hdl hszr hmid
        go_wp2_with fail
        go_loopw [6, 36] (fun n p wr => ∃ (i : Nat), i ≤ d.length ∧ p = .int .i64 i ∧ n = .int .i64 ((mergeS (d.take i)).length : Nat) ∧ Hid (MidRow g (mergeS (d.take i)) d i wr) ∧ Hid (Below w.heap.size w wr)) (fun _ p _ => d.length - (intOf p).toNat)
        case atStart => exact ⟨0, by omega, rfl, rfl, HM, HB4⟩
        case round =>
          clear HM HB4
          obtain ⟨i, hi, rfl, rfl, HM, HB⟩ := hrel
          by_cases hlt : i < d.length
          · have hml := mergeS_len (d.take i)
            have hml2 : (d.take i).length = i := by rw [List.length_take]; omega
            have HJ : Hid (mergeS (d.take (i + 1)) = joinS (mergeS (d.take i)) d[i]) := Lib.hid (by rw [List.take_succ_eq_append_getElem hlt, mergeS_snoc])
            have hpos : 0 < i → 0 < (mergeS (d.take i)).length := fun h => mergeS_pos _ (by omega)
            have hzero : i = 0 → mergeS (d.take i) = [] := fun h => by subst h; rfl
            obtain ⟨hc1, hc2⟩ := HM.out.2.1 i d[i] (Nat.le_refl _) (by simp [hlt])
            obtain ⟨⟨x1, x2⟩, hx⟩ : ∃ x, x = d[i] := ⟨_, rfl⟩
            rw [← hx] at hc1 hc2 HJ
            clear hx
            simp only at hc1 hc2
            have HM2 := Lib.hid (HM.out.alloc (.cells #[intC x1, intC x2] 49))
            have hszr := HB.out.size
            have HB2 := Lib.hid (HB.out.alloc hszr (.cells #[intC x1, intC x2] 49))
            generalize mergeS (d.take i) = m at *
            by_cases hi0 : 0 < i
            · rcases List.eq_nil_or_concat m with rfl | ⟨pre, y, rfl⟩
              · exact absurd (hpos hi0) (by simp)
              · rw [List.concat_eq_append] at *
                rw [joinS_snoc] at HJ
                simp only [List.length_append, List.length_singleton] at hml ⊢
                have hcy := (HM2.out.1 pre.length y (by simp)).2
                have hfy := HM2.out.2.2.1 (pre.length * 2 + 1)
                have hi1 : (0 : Int) < (i : Int) := by omega
                have hn1 : IntKind.i64.wrap (((pre.length + 1 : Nat) : Int) - 1) = (pre.length : Int) := by rw [IntWalk.i64_in _ (by omega)]; omega
                have hn2 : IntKind.i64.wrap ((pre.length : Int) + 1 - 1) = (pre.length : Int) := by rw [IntWalk.i64_in _ (by omega)]; omega
                have hn3 : (pre.length : Int) < (d.length : Int) := by omega
                have hn4 : (0 : Int) ≤ (pre.length : Int) := by omega
                have hi2 : decide (0 < i) = true := decide_eq_true hi0
                clear hpos hzero
                by_cases hle : x1 ≤ y.2
                · go_wp2_with fail
                  go_quiet (fail)
                  go_wp2_with fail
                  go_region
                  go_wp2_with fail
                  go_roundw
                  case rel =>
                    refine ⟨i + 1, by omega, by go_num, ?_, Lib.hid ?_, Lib.hid ?_⟩
                    · rw [HJ.out, if_pos hle]; simp
                    · rw [HJ.out, if_pos hle]
                      exact MidRow.join HM2.out (by omega) _
                    · exact (below_drewN HB2.out _).setCell hgb _
                  case measure => simp [intOf]; omega
                · have HNL := Lib.hid hle
                  obtain ⟨z, hz1, hz2⟩ := HM2.out.2.2.2.2 (pre.length + 1) (by omega)
                  have hf1 := HM2.out.2.2.1 ((pre.length + 1) * 2)
                  have hf2 := HM2.out.2.2.1 ((pre.length + 1) * 2 + 1)
                  go_wp2_with fail
                  go_quiet (fail)
                  go_wp2_with fail
                  go_roundw
                  case rel =>
                    refine ⟨i + 1, by omega, by go_num, ?_, Lib.hid ?_, Lib.hid ?_⟩
                    · rw [HJ.out, if_neg (Int.not_le.2 HNL.out)]; simp; try omega
                    · rw [HJ.out, if_neg (Int.not_le.2 HNL.out)]
                      exact HM2.out.pushN (x := (x1, x2)) (pre.length + 1) (by simp) (by omega) (by omega) _
                    · exact ((below_drewN HB2.out _).setCell hgb _).setCell hgb _
                  case measure => simp [intOf]; omega
            · obtain rfl : i = 0 := by omega
              obtain rfl : m = [] := hzero rfl
              rw [joinS_nil] at HJ
              obtain ⟨z, hz1, hz2⟩ := HM2.out.2.2.2.2 0 (by omega)
              have hf1 := HM2.out.2.2.1 (0 * 2)
              have hf2 := HM2.out.2.2.1 (0 * 2 + 1)
              simp only [Nat.zero_mul, Nat.zero_add] at hz1 hz2 hf1 hf2 hc1 hc2
              clear hpos hzero
              go_wp2_with fail
              go_quiet (fail)
              go_wp2_with fail
              go_roundw
              case rel =>
                refine ⟨1, by omega, by go_num, ?_, Lib.hid ?_, Lib.hid ?_⟩
                · rw [HJ.out]; rfl
                · rw [HJ.out]
                  exact HM2.out.pushN (x := (x1, x2)) 0 rfl (by omega) (by omega) _
                · exact ((below_drewN HB2.out _).setCell hgb _).setCell hgb _
              case measure => simp [intOf]; omega
          · have hii : i = d.length := by omega
            subst hii
            rw [List.take_length] at HM
            have HC : Hid (mergeS d = canon s) := Lib.hid (merge_canon HP.out HSD.out)
            have hml := mergeS_len d
            go_wp2_with fail
            go_ret
            exact ⟨_, rfl, by rw [← HC.out]; exact HM.out.edges, HB.out⟩
end Go.Proofs.YtdhihdiifgcfdaaGreatDoor
