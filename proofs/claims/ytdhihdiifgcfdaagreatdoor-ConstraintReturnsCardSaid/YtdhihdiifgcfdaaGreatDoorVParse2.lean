/- The walk of package version's Parse. -/
import Derived.Test.YtdhihdiifgcfdaaGreatDoorVParse
namespace Go.Proofs.YtdhihdiifgcfdaaGreatDoor
open Go Go.RowKit

set_option maxRecDepth 100000 in
set_option maxHeartbeats 40000000 in
theorem Parse_any (s : ByteArray) (w : World) (hs : s.size ≤ 1000000) (hm : MaxOk w) :
    Calls Tryz.prog 103 #[.string s] w fun e w' => e = .returned (.tuple #[.agg #[.int .i64 (parseV s.data.toList).1.1, .int .i64 (parseV s.data.toList).1.2.1, .int .i64 (parseV s.data.toList).1.2.2], .int .i64 (parseV s.data.toList).2]) ∧ Below w.heap.size w w' := by
  obtain ⟨ws, hws⟩ : ∃ ws, dotB s = ws := ⟨_, rfl⟩
  have hwd : dotsL s.data.toList = ws.map (·.data.toList) := by rw [← hws, dotB_data]
  have hwl : ws.length ≤ 1000001 := by rw [← hws]; have := dotB_length s; omega
  have hw0 : 0 < ws.length := by rw [← hws]; exact dotB_ne s
  have hmz := hm.alloc (.cells #[.int .i64 0, .int .i64 0, .int .i64 0] 23)
  have HS := Lib.hid (SplitDot_any s _ (by omega) hmz)
  rw [hws] at HS
  obtain ⟨v, hv⟩ : ∃ v, parseV s.data.toList = v := ⟨_, rfl⟩
  rw [hv]
  have HV := Lib.hid hv
  have HD := Lib.hid hwd
  have HB1 := Lib.hid ((Below.refl w.heap.size w).alloc (Nat.le_refl _) (.cells #[.int .i64 0, .int .i64 0, .int .i64 0] 23))
  clear hv hwd hws
  by_cases hn : ws.length = 3
  · obtain ⟨x, y, z, rfl⟩ : ∃ x y z, ws = [x, y, z] := by
      match ws, hn with
      | [x, y, z], _ => exact ⟨x, y, z, rfl⟩
    have HV2 : Hid (v = if (wordOk x.data.toList && (wordOk y.data.toList && wordOk z.data.toList)) = true then (((wordV x.data.toList : Int), (wordV y.data.toList : Int), (wordV z.data.toList : Int)), 0) else ((0, 0, 0), 3)) := Lib.hid (by
      rw [← HV.out]; unfold parseV; rw [HD.out]; rfl)
    have HST : Hid (PSt w (((w.alloc (.cells #[.int .i64 0, .int .i64 0, .int .i64 0] 23)).alloc (.cells ([x, y, z].map Value.string).toArray 9)).alloc (.cells #[.int .i64 0, .int .i64 0, .int .i64 0] 75)) [x, y, z] 0 0 0) := Lib.hid (by
      refine ⟨(by repeat (first | exact Below.refl _ _ | refine Below.drew ?_ | refine Below.alloc ?_ (by simp <;> omega) _ | refine Below.setCell ?_ (by simp <;> omega) _)), ?_, ?_, ?_⟩
      · rw [Below.heap_alloc _ _ _ (by simp only [World.size_alloc]; omega), Below.heap_alloc _ _ _ (by simp)]; exact heap_alloc_new _ _
      · rw [Below.heap_alloc _ _ _ (by simp only [World.size_alloc]; omega)]
        have := heap_alloc_new (w.alloc (.cells #[.int .i64 0, .int .i64 0, .int .i64 0] 23)) (.cells ([x, y, z].map Value.string).toArray 9)
        rw [World.size_alloc] at this; exact this
      · have := heap_alloc_new ((w.alloc (.cells #[.int .i64 0, .int .i64 0, .int .i64 0] 23)).alloc (.cells ([x, y, z].map Value.string).toArray 9)) (.cells #[.int .i64 0, .int .i64 0, .int .i64 0] 75)
        rw [World.size_alloc, World.size_alloc] at this; exact this)
    simp only [List.map_cons, List.map_nil, List.length_cons, List.length_nil, Nat.reduceAdd] at HS HST hwl hw0
    clear hn
    go_enter Tryz.func103, Tryz.ntmps103
    go_wp2_with fail
    (with_reducible refine HS.out.mono ?_)
    rintro e w' ⟨rfl, rfl⟩
    go_wp2_with fail
    go_loopw [17] (fun i wr => (i = .int .i64 0 ∧ Hid (PSt w wr [x, y, z] 0 0 0)) ∨ (i = .int .i64 1 ∧ Hid (wordOk x.data.toList = true ∧ PSt w wr [x, y, z] (wordV x.data.toList) 0 0)) ∨
      (i = .int .i64 2 ∧ Hid ((wordOk x.data.toList = true ∧ wordOk y.data.toList = true) ∧ PSt w wr [x, y, z] (wordV x.data.toList) (wordV y.data.toList) 0)) ∨
      (i = .int .i64 3 ∧ Hid ((wordOk x.data.toList = true ∧ wordOk y.data.toList = true ∧ wordOk z.data.toList = true) ∧ PSt w wr [x, y, z] (wordV x.data.toList) (wordV y.data.toList) (wordV z.data.toList)))) (fun i _ => 3 - (intOf i).toNat)
    case atStart => exact .inl ⟨rfl, HST⟩
    case round =>
      clear HST HS
      rcases hrel with ⟨rfl, HW⟩ | ⟨rfl, HW⟩ | ⟨rfl, HW⟩ | ⟨rfl, HW⟩
      · have hc := HW.out.word 0 x rfl
        have HT := Lib.hid (HW.out)
        have HO := Lib.hid (odd_any x wr)
        rcases word_cases x with ⟨hk, h1⟩ | ⟨hk, h1, h2⟩ | ⟨hk, h1, h2, h3⟩ | ⟨hk, h0, h1, h2, h3, h4⟩ | ⟨hk, h1, h3⟩ | ⟨hk, h0, h1, h2, h3, h4⟩
        · have HK := Lib.hid hk
          have HVF : Hid (v = ((0, 0, 0), 3)) := Lib.hid (by rw [HV2.out, if_neg (by simp [HK.out])])
          have he1 : x.toList = [] := is_nil _ (by omega)
          have he2 : x.toList.isEmpty = true := by rw [he1]; rfl
          clear hk
          go_wp2_with fail
          (with_reducible refine HO.out.mono ?_)
          rintro e w1 ⟨rfl, hb1⟩
          have HT1 := Lib.hid (HT.out.below hb1)
          obtain ⟨⟨a0, a1, a2⟩, b0, b1, b2⟩ := HT1.out.zero
          clear hb1
          go_wp2_with fail
          rw [HVF.out]
          exact bodyPost_ret (v := .tuple #[.agg #[.int .i64 0, .int .i64 0, .int .i64 0], .int .i64 3]) (by simp [results, Tryz.results103, go_sem, a0, a1, a2]) rfl ⟨rfl, ((HT1.out.1.setCell (p := ⟨_, 0, none⟩) (Nat.le_refl _) _).setCell (p := ⟨_, 1, none⟩) (Nat.le_refl _) _).setCell (p := ⟨_, 2, none⟩) (Nat.le_refl _) _⟩
        · have HK := Lib.hid hk
          have HVF : Hid (v = ((0, 0, 0), 3)) := Lib.hid (by rw [HV2.out, if_neg (by simp [HK.out])])
          have he1 : ¬ x.toList = [] := ne_nil _ h1
          have he2 : x.toList.isEmpty = false := ne_empty _ h1
          have h5 : ¬ x.size ≤ 3 := by omega
          clear hk
          go_wp2_with fail
          (with_reducible refine HO.out.mono ?_)
          rintro e w1 ⟨rfl, hb1⟩
          have HT1 := Lib.hid (HT.out.below hb1)
          obtain ⟨⟨a0, a1, a2⟩, b0, b1, b2⟩ := HT1.out.zero
          clear hb1
          go_wp2_with fail
          rw [HVF.out]
          exact bodyPost_ret (v := .tuple #[.agg #[.int .i64 0, .int .i64 0, .int .i64 0], .int .i64 3]) (by simp [results, Tryz.results103, go_sem, a0, a1, a2]) rfl ⟨rfl, ((HT1.out.1.setCell (p := ⟨_, 0, none⟩) (Nat.le_refl _) _).setCell (p := ⟨_, 1, none⟩) (Nat.le_refl _) _).setCell (p := ⟨_, 2, none⟩) (Nat.le_refl _) _⟩
        · have HK := Lib.hid hk
          have HVF : Hid (v = ((0, 0, 0), 3)) := Lib.hid (by rw [HV2.out, if_neg (by simp [HK.out])])
          have he1 : ¬ x.toList = [] := ne_nil _ h1
          have he2 : x.toList.isEmpty = false := ne_empty _ h1
          clear hk
          go_wp2_with fail
          (with_reducible refine HO.out.mono ?_)
          rintro e w1 ⟨rfl, hb1⟩
          have HT1 := Lib.hid (HT.out.below hb1)
          obtain ⟨⟨a0, a1, a2⟩, b0, b1, b2⟩ := HT1.out.zero
          clear hb1
          go_wp2_with fail
          rw [HVF.out]
          exact bodyPost_ret (v := .tuple #[.agg #[.int .i64 0, .int .i64 0, .int .i64 0], .int .i64 3]) (by simp [results, Tryz.results103, go_sem, a0, a1, a2]) rfl ⟨rfl, ((HT1.out.1.setCell (p := ⟨_, 0, none⟩) (Nat.le_refl _) _).setCell (p := ⟨_, 1, none⟩) (Nat.le_refl _) _).setCell (p := ⟨_, 2, none⟩) (Nat.le_refl _) _⟩
        · have HK := Lib.hid hk
          have HVF : Hid (v = ((0, 0, 0), 3)) := Lib.hid (by rw [HV2.out, if_neg (by simp [HK.out])])
          have he1 : ¬ x.toList = [] := ne_nil _ h0
          have he2 : x.toList.isEmpty = false := ne_empty _ h0
          have h5 : ((((x[0]).toNat : Int)) == 48) = true := by simpa using h4
          clear hk
          go_wp2_with fail
          (with_reducible refine HO.out.mono ?_)
          rintro e w1 ⟨rfl, hb1⟩
          have HT1 := Lib.hid (HT.out.below hb1)
          obtain ⟨⟨a0, a1, a2⟩, b0, b1, b2⟩ := HT1.out.zero
          clear hb1
          go_wp2_with fail
          rw [HVF.out]
          exact bodyPost_ret (v := .tuple #[.agg #[.int .i64 0, .int .i64 0, .int .i64 0], .int .i64 3]) (by simp [results, Tryz.results103, go_sem, a0, a1, a2]) rfl ⟨rfl, ((HT1.out.1.setCell (p := ⟨_, 0, none⟩) (Nat.le_refl _) _).setCell (p := ⟨_, 1, none⟩) (Nat.le_refl _) _).setCell (p := ⟨_, 2, none⟩) (Nat.le_refl _) _⟩
        · have HK := Lib.hid hk
          have HA := Lib.hid (fun W => Atoi_any x W hk)
          have he1 : ¬ x.toList = [] := ne_nil _ (by omega)
          have he2 : x.toList.isEmpty = false := ne_empty _ (by omega)
          have h5 : ¬ 1 < x.size := by omega
          have h6 : x.size ≤ 3 := by omega
          clear h1
          clear hk
          go_wp2_with fail
          (with_reducible refine HO.out.mono ?_)
          rintro e w1 ⟨rfl, hb1⟩
          have HT1 := Lib.hid (HT.out.below hb1)
          clear hb1
          go_wp2_with fail
          (with_reducible refine (HA.out _).mono ?_)
          rintro e w2 ⟨rfl, hb2⟩
          have HT2 := Lib.hid (HT1.out.below hb2)
          obtain ⟨⟨a0, a1, a2⟩, b0, b1, b2⟩ := HT2.out.out
          clear hb2
          go_wp2_with fail
          go_roundw
          case rel => exact .inr (.inl ⟨rfl, Lib.hid ⟨HK.out, HT2.out.set 0 _ rfl⟩⟩)
          case measure => simp [intOf]
        · have HK := Lib.hid hk
          have HA := Lib.hid (fun W => Atoi_any x W hk)
          have he1 : ¬ x.toList = [] := ne_nil _ h0
          have he2 : x.toList.isEmpty = false := ne_empty _ h0
          have h5 : ((((x[0]).toNat : Int)) == 48) = false := by simpa using h4
          clear hk
          go_wp2_with fail
          (with_reducible refine HO.out.mono ?_)
          rintro e w1 ⟨rfl, hb1⟩
          have HT1 := Lib.hid (HT.out.below hb1)
          clear hb1
          go_wp2_with fail
          (with_reducible refine (HA.out _).mono ?_)
          rintro e w2 ⟨rfl, hb2⟩
          have HT2 := Lib.hid (HT1.out.below hb2)
          obtain ⟨⟨a0, a1, a2⟩, b0, b1, b2⟩ := HT2.out.out
          clear hb2
          go_wp2_with fail
          go_roundw
          case rel => exact .inr (.inl ⟨rfl, Lib.hid ⟨HK.out, HT2.out.set 0 _ rfl⟩⟩)
          case measure => simp [intOf]
      · have hc := HW.out.2.word 1 y rfl
        have HT := Lib.hid (HW.out.2)
        have HO := Lib.hid (odd_any y wr)
        rcases word_cases y with ⟨hk, h1⟩ | ⟨hk, h1, h2⟩ | ⟨hk, h1, h2, h3⟩ | ⟨hk, h0, h1, h2, h3, h4⟩ | ⟨hk, h1, h3⟩ | ⟨hk, h0, h1, h2, h3, h4⟩
        · have HK := Lib.hid hk
          have HVF : Hid (v = ((0, 0, 0), 3)) := Lib.hid (by rw [HV2.out, if_neg (by simp [HW.out.1, HK.out])])
          have he1 : y.toList = [] := is_nil _ (by omega)
          have he2 : y.toList.isEmpty = true := by rw [he1]; rfl
          clear hk
          go_wp2_with fail
          (with_reducible refine HO.out.mono ?_)
          rintro e w1 ⟨rfl, hb1⟩
          have HT1 := Lib.hid (HT.out.below hb1)
          obtain ⟨⟨a0, a1, a2⟩, b0, b1, b2⟩ := HT1.out.zero
          clear hb1
          go_wp2_with fail
          rw [HVF.out]
          exact bodyPost_ret (v := .tuple #[.agg #[.int .i64 0, .int .i64 0, .int .i64 0], .int .i64 3]) (by simp [results, Tryz.results103, go_sem, a0, a1, a2]) rfl ⟨rfl, ((HT1.out.1.setCell (p := ⟨_, 0, none⟩) (Nat.le_refl _) _).setCell (p := ⟨_, 1, none⟩) (Nat.le_refl _) _).setCell (p := ⟨_, 2, none⟩) (Nat.le_refl _) _⟩
        · have HK := Lib.hid hk
          have HVF : Hid (v = ((0, 0, 0), 3)) := Lib.hid (by rw [HV2.out, if_neg (by simp [HW.out.1, HK.out])])
          have he1 : ¬ y.toList = [] := ne_nil _ h1
          have he2 : y.toList.isEmpty = false := ne_empty _ h1
          have h5 : ¬ y.size ≤ 3 := by omega
          clear hk
          go_wp2_with fail
          (with_reducible refine HO.out.mono ?_)
          rintro e w1 ⟨rfl, hb1⟩
          have HT1 := Lib.hid (HT.out.below hb1)
          obtain ⟨⟨a0, a1, a2⟩, b0, b1, b2⟩ := HT1.out.zero
          clear hb1
          go_wp2_with fail
          rw [HVF.out]
          exact bodyPost_ret (v := .tuple #[.agg #[.int .i64 0, .int .i64 0, .int .i64 0], .int .i64 3]) (by simp [results, Tryz.results103, go_sem, a0, a1, a2]) rfl ⟨rfl, ((HT1.out.1.setCell (p := ⟨_, 0, none⟩) (Nat.le_refl _) _).setCell (p := ⟨_, 1, none⟩) (Nat.le_refl _) _).setCell (p := ⟨_, 2, none⟩) (Nat.le_refl _) _⟩
        · have HK := Lib.hid hk
          have HVF : Hid (v = ((0, 0, 0), 3)) := Lib.hid (by rw [HV2.out, if_neg (by simp [HW.out.1, HK.out])])
          have he1 : ¬ y.toList = [] := ne_nil _ h1
          have he2 : y.toList.isEmpty = false := ne_empty _ h1
          clear hk
          go_wp2_with fail
          (with_reducible refine HO.out.mono ?_)
          rintro e w1 ⟨rfl, hb1⟩
          have HT1 := Lib.hid (HT.out.below hb1)
          obtain ⟨⟨a0, a1, a2⟩, b0, b1, b2⟩ := HT1.out.zero
          clear hb1
          go_wp2_with fail
          rw [HVF.out]
          exact bodyPost_ret (v := .tuple #[.agg #[.int .i64 0, .int .i64 0, .int .i64 0], .int .i64 3]) (by simp [results, Tryz.results103, go_sem, a0, a1, a2]) rfl ⟨rfl, ((HT1.out.1.setCell (p := ⟨_, 0, none⟩) (Nat.le_refl _) _).setCell (p := ⟨_, 1, none⟩) (Nat.le_refl _) _).setCell (p := ⟨_, 2, none⟩) (Nat.le_refl _) _⟩
        · have HK := Lib.hid hk
          have HVF : Hid (v = ((0, 0, 0), 3)) := Lib.hid (by rw [HV2.out, if_neg (by simp [HW.out.1, HK.out])])
          have he1 : ¬ y.toList = [] := ne_nil _ h0
          have he2 : y.toList.isEmpty = false := ne_empty _ h0
          have h5 : ((((y[0]).toNat : Int)) == 48) = true := by simpa using h4
          clear hk
          go_wp2_with fail
          (with_reducible refine HO.out.mono ?_)
          rintro e w1 ⟨rfl, hb1⟩
          have HT1 := Lib.hid (HT.out.below hb1)
          obtain ⟨⟨a0, a1, a2⟩, b0, b1, b2⟩ := HT1.out.zero
          clear hb1
          go_wp2_with fail
          rw [HVF.out]
          exact bodyPost_ret (v := .tuple #[.agg #[.int .i64 0, .int .i64 0, .int .i64 0], .int .i64 3]) (by simp [results, Tryz.results103, go_sem, a0, a1, a2]) rfl ⟨rfl, ((HT1.out.1.setCell (p := ⟨_, 0, none⟩) (Nat.le_refl _) _).setCell (p := ⟨_, 1, none⟩) (Nat.le_refl _) _).setCell (p := ⟨_, 2, none⟩) (Nat.le_refl _) _⟩
        · have HK := Lib.hid hk
          have HA := Lib.hid (fun W => Atoi_any y W hk)
          have he1 : ¬ y.toList = [] := ne_nil _ (by omega)
          have he2 : y.toList.isEmpty = false := ne_empty _ (by omega)
          have h5 : ¬ 1 < y.size := by omega
          have h6 : y.size ≤ 3 := by omega
          clear h1
          clear hk
          go_wp2_with fail
          (with_reducible refine HO.out.mono ?_)
          rintro e w1 ⟨rfl, hb1⟩
          have HT1 := Lib.hid (HT.out.below hb1)
          clear hb1
          go_wp2_with fail
          (with_reducible refine (HA.out _).mono ?_)
          rintro e w2 ⟨rfl, hb2⟩
          have HT2 := Lib.hid (HT1.out.below hb2)
          obtain ⟨⟨a0, a1, a2⟩, b0, b1, b2⟩ := HT2.out.out
          clear hb2
          go_wp2_with fail
          go_roundw
          case rel => exact .inr (.inr (.inl ⟨rfl, Lib.hid ⟨⟨HW.out.1, HK.out⟩, HT2.out.set 1 _ rfl⟩⟩))
          case measure => simp [intOf]
        · have HK := Lib.hid hk
          have HA := Lib.hid (fun W => Atoi_any y W hk)
          have he1 : ¬ y.toList = [] := ne_nil _ h0
          have he2 : y.toList.isEmpty = false := ne_empty _ h0
          have h5 : ((((y[0]).toNat : Int)) == 48) = false := by simpa using h4
          clear hk
          go_wp2_with fail
          (with_reducible refine HO.out.mono ?_)
          rintro e w1 ⟨rfl, hb1⟩
          have HT1 := Lib.hid (HT.out.below hb1)
          clear hb1
          go_wp2_with fail
          (with_reducible refine (HA.out _).mono ?_)
          rintro e w2 ⟨rfl, hb2⟩
          have HT2 := Lib.hid (HT1.out.below hb2)
          obtain ⟨⟨a0, a1, a2⟩, b0, b1, b2⟩ := HT2.out.out
          clear hb2
          go_wp2_with fail
          go_roundw
          case rel => exact .inr (.inr (.inl ⟨rfl, Lib.hid ⟨⟨HW.out.1, HK.out⟩, HT2.out.set 1 _ rfl⟩⟩))
          case measure => simp [intOf]
      · have hc := HW.out.2.word 2 z rfl
        have HT := Lib.hid (HW.out.2)
        have HO := Lib.hid (odd_any z wr)
        rcases word_cases z with ⟨hk, h1⟩ | ⟨hk, h1, h2⟩ | ⟨hk, h1, h2, h3⟩ | ⟨hk, h0, h1, h2, h3, h4⟩ | ⟨hk, h1, h3⟩ | ⟨hk, h0, h1, h2, h3, h4⟩
        · have HK := Lib.hid hk
          have HVF : Hid (v = ((0, 0, 0), 3)) := Lib.hid (by rw [HV2.out, if_neg (by simp [HW.out.1.1, HW.out.1.2, HK.out])])
          have he1 : z.toList = [] := is_nil _ (by omega)
          have he2 : z.toList.isEmpty = true := by rw [he1]; rfl
          clear hk
          go_wp2_with fail
          (with_reducible refine HO.out.mono ?_)
          rintro e w1 ⟨rfl, hb1⟩
          have HT1 := Lib.hid (HT.out.below hb1)
          obtain ⟨⟨a0, a1, a2⟩, b0, b1, b2⟩ := HT1.out.zero
          clear hb1
          go_wp2_with fail
          rw [HVF.out]
          exact bodyPost_ret (v := .tuple #[.agg #[.int .i64 0, .int .i64 0, .int .i64 0], .int .i64 3]) (by simp [results, Tryz.results103, go_sem, a0, a1, a2]) rfl ⟨rfl, ((HT1.out.1.setCell (p := ⟨_, 0, none⟩) (Nat.le_refl _) _).setCell (p := ⟨_, 1, none⟩) (Nat.le_refl _) _).setCell (p := ⟨_, 2, none⟩) (Nat.le_refl _) _⟩
        · have HK := Lib.hid hk
          have HVF : Hid (v = ((0, 0, 0), 3)) := Lib.hid (by rw [HV2.out, if_neg (by simp [HW.out.1.1, HW.out.1.2, HK.out])])
          have he1 : ¬ z.toList = [] := ne_nil _ h1
          have he2 : z.toList.isEmpty = false := ne_empty _ h1
          have h5 : ¬ z.size ≤ 3 := by omega
          clear hk
          go_wp2_with fail
          (with_reducible refine HO.out.mono ?_)
          rintro e w1 ⟨rfl, hb1⟩
          have HT1 := Lib.hid (HT.out.below hb1)
          obtain ⟨⟨a0, a1, a2⟩, b0, b1, b2⟩ := HT1.out.zero
          clear hb1
          go_wp2_with fail
          rw [HVF.out]
          exact bodyPost_ret (v := .tuple #[.agg #[.int .i64 0, .int .i64 0, .int .i64 0], .int .i64 3]) (by simp [results, Tryz.results103, go_sem, a0, a1, a2]) rfl ⟨rfl, ((HT1.out.1.setCell (p := ⟨_, 0, none⟩) (Nat.le_refl _) _).setCell (p := ⟨_, 1, none⟩) (Nat.le_refl _) _).setCell (p := ⟨_, 2, none⟩) (Nat.le_refl _) _⟩
        · have HK := Lib.hid hk
          have HVF : Hid (v = ((0, 0, 0), 3)) := Lib.hid (by rw [HV2.out, if_neg (by simp [HW.out.1.1, HW.out.1.2, HK.out])])
          have he1 : ¬ z.toList = [] := ne_nil _ h1
          have he2 : z.toList.isEmpty = false := ne_empty _ h1
          clear hk
          go_wp2_with fail
          (with_reducible refine HO.out.mono ?_)
          rintro e w1 ⟨rfl, hb1⟩
          have HT1 := Lib.hid (HT.out.below hb1)
          obtain ⟨⟨a0, a1, a2⟩, b0, b1, b2⟩ := HT1.out.zero
          clear hb1
          go_wp2_with fail
          rw [HVF.out]
          exact bodyPost_ret (v := .tuple #[.agg #[.int .i64 0, .int .i64 0, .int .i64 0], .int .i64 3]) (by simp [results, Tryz.results103, go_sem, a0, a1, a2]) rfl ⟨rfl, ((HT1.out.1.setCell (p := ⟨_, 0, none⟩) (Nat.le_refl _) _).setCell (p := ⟨_, 1, none⟩) (Nat.le_refl _) _).setCell (p := ⟨_, 2, none⟩) (Nat.le_refl _) _⟩
        · have HK := Lib.hid hk
          have HVF : Hid (v = ((0, 0, 0), 3)) := Lib.hid (by rw [HV2.out, if_neg (by simp [HW.out.1.1, HW.out.1.2, HK.out])])
          have he1 : ¬ z.toList = [] := ne_nil _ h0
          have he2 : z.toList.isEmpty = false := ne_empty _ h0
          have h5 : ((((z[0]).toNat : Int)) == 48) = true := by simpa using h4
          clear hk
          go_wp2_with fail
          (with_reducible refine HO.out.mono ?_)
          rintro e w1 ⟨rfl, hb1⟩
          have HT1 := Lib.hid (HT.out.below hb1)
          obtain ⟨⟨a0, a1, a2⟩, b0, b1, b2⟩ := HT1.out.zero
          clear hb1
          go_wp2_with fail
          rw [HVF.out]
          exact bodyPost_ret (v := .tuple #[.agg #[.int .i64 0, .int .i64 0, .int .i64 0], .int .i64 3]) (by simp [results, Tryz.results103, go_sem, a0, a1, a2]) rfl ⟨rfl, ((HT1.out.1.setCell (p := ⟨_, 0, none⟩) (Nat.le_refl _) _).setCell (p := ⟨_, 1, none⟩) (Nat.le_refl _) _).setCell (p := ⟨_, 2, none⟩) (Nat.le_refl _) _⟩
        · have HK := Lib.hid hk
          have HA := Lib.hid (fun W => Atoi_any z W hk)
          have he1 : ¬ z.toList = [] := ne_nil _ (by omega)
          have he2 : z.toList.isEmpty = false := ne_empty _ (by omega)
          have h5 : ¬ 1 < z.size := by omega
          have h6 : z.size ≤ 3 := by omega
          clear h1
          clear hk
          go_wp2_with fail
          (with_reducible refine HO.out.mono ?_)
          rintro e w1 ⟨rfl, hb1⟩
          have HT1 := Lib.hid (HT.out.below hb1)
          clear hb1
          go_wp2_with fail
          (with_reducible refine (HA.out _).mono ?_)
          rintro e w2 ⟨rfl, hb2⟩
          have HT2 := Lib.hid (HT1.out.below hb2)
          obtain ⟨⟨a0, a1, a2⟩, b0, b1, b2⟩ := HT2.out.out
          clear hb2
          go_wp2_with fail
          go_roundw
          case rel => exact .inr (.inr (.inr ⟨rfl, Lib.hid ⟨⟨HW.out.1.1, HW.out.1.2, HK.out⟩, HT2.out.set 2 _ rfl⟩⟩))
          case measure => simp [intOf]
        · have HK := Lib.hid hk
          have HA := Lib.hid (fun W => Atoi_any z W hk)
          have he1 : ¬ z.toList = [] := ne_nil _ h0
          have he2 : z.toList.isEmpty = false := ne_empty _ h0
          have h5 : ((((z[0]).toNat : Int)) == 48) = false := by simpa using h4
          clear hk
          go_wp2_with fail
          (with_reducible refine HO.out.mono ?_)
          rintro e w1 ⟨rfl, hb1⟩
          have HT1 := Lib.hid (HT.out.below hb1)
          clear hb1
          go_wp2_with fail
          (with_reducible refine (HA.out _).mono ?_)
          rintro e w2 ⟨rfl, hb2⟩
          have HT2 := Lib.hid (HT1.out.below hb2)
          obtain ⟨⟨a0, a1, a2⟩, b0, b1, b2⟩ := HT2.out.out
          clear hb2
          go_wp2_with fail
          go_roundw
          case rel => exact .inr (.inr (.inr ⟨rfl, Lib.hid ⟨⟨HW.out.1.1, HW.out.1.2, HK.out⟩, HT2.out.set 2 _ rfl⟩⟩))
          case measure => simp [intOf]
      · obtain ⟨⟨o0, o1, o2⟩, -, -, -⟩ := HW.out.2.out
        obtain ⟨⟨a0, a1, a2⟩, b0, b1, b2⟩ := HW.out.2.zero
        have HVF : Hid (v = (((wordV x.data.toList : Int), (wordV y.data.toList : Int), (wordV z.data.toList : Int)), 0)) := Lib.hid (by rw [HV2.out, if_pos (by simp [HW.out.1.1, HW.out.1.2.1, HW.out.1.2.2])])
        go_wp2_with fail
        rw [HVF.out]
        exact bodyPost_ret (v := .tuple #[.agg #[.int .i64 (wordV x.data.toList), .int .i64 (wordV y.data.toList), .int .i64 (wordV z.data.toList)], .int .i64 0]) (by simp [results, Tryz.results103, go_sem, a0, a1, a2]) rfl ⟨rfl, ((HW.out.2.1.setCell (p := ⟨_, 0, none⟩) (Nat.le_refl _) _).setCell (p := ⟨_, 1, none⟩) (Nat.le_refl _) _).setCell (p := ⟨_, 2, none⟩) (Nat.le_refl _) _⟩
  · have hn2 : ((ws.length : Int) != 3) = true := by simpa using (by omega : ¬ (ws.length : Int) = 3)
    have HVF : Hid (v = ((0, 0, 0), 3)) := Lib.hid (by
      rw [← HV.out]; unfold parseV; rw [HD.out]
      match ws, hn with
      | [], _ => rfl
      | [_], _ => rfl
      | [_, _], _ => rfl
      | [_, _, _], h => exact absurd rfl h
      | _ :: _ :: _ :: _ :: _, _ => rfl)
    clear hn
    go_enter Tryz.func103, Tryz.ntmps103
    go_wp2_with fail
    (with_reducible refine HS.out.mono ?_)
    rintro e w' ⟨rfl, rfl⟩
    go_wp2_with fail
    rw [HVF.out]
    exact bodyPost_ret (v := .tuple #[.agg #[.int .i64 0, .int .i64 0, .int .i64 0], .int .i64 3]) (by simp [results, Tryz.results103, go_sem]) rfl ⟨rfl, (by repeat (first | exact Below.refl _ _ | refine Below.drew ?_ | refine Below.alloc ?_ (by simp <;> omega) _ | refine Below.setCell ?_ (by simp <;> omega) _))⟩
end Go.Proofs.YtdhihdiifgcfdaaGreatDoor
