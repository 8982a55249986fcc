/- The walk of the reference's Parse. -/
import Derived.Test.YtbpgbbdebhmlkaaDoorVRef9
namespace Go.Proofs.YtbpgbbdebhmlkaaDoor
open Go Go.RowKit

theorem wordV_acc (l : List UInt8) (h : AccW l) : wordV l ≤ 999 := by
  have := valF_le l 0 (List.all_eq_true.1 h.1)
  have hp : 10 ^ l.length ≤ 10 ^ 3 := Nat.pow_le_pow_right (by decide) h.2.1
  unfold wordV
  have : (10 : Nat) ^ 3 = 1000 := by decide
  omega
theorem RdS.acc {s : ByteArray} {k : Nat} {done : List (List UInt8)} {cur : List UInt8} (h : RdS s k done cur) : AccW cur ∧ done.length + cur.length ≤ k := by
  obtain ⟨_, _, _, _, _, e4, e5⟩ := h
  exact ⟨e4, e5⟩
theorem wVs_snoc (l : List (List UInt8)) (x : List UInt8) : wVs (l ++ [x]) = wVs l ++ [.int .i64 (wordV x : Int)] := by unfold wVs; simp
set_option maxRecDepth 100000 in
set_option maxHeartbeats 40000000 in
theorem rParse_any (s : ByteArray) (w : World) (hs : s.size ≤ 1000000) :
    Calls Tryd.prog 10 #[.string s] w fun e w' => e = .returned (.tuple #[.agg #[.int .i64 (parseV s.data.toList).1.1, .int .i64 (parseV s.data.toList).1.2.1, .int .i64 (parseV s.data.toList).1.2.2], .int .i64 (parseV s.data.toList).2]) ∧ Below w.heap.size w w' := by
  obtain ⟨v, hv⟩ : ∃ v, parseV s.data.toList = v := ⟨_, rfl⟩
  rw [hv]
  have HV := Lib.hid hv
  clear hv
  have hz := heap_alloc_new w (.cells #[.int .i64 0, .int .i64 0, .int .i64 0] 23)
  have HZ0 : Hid (((w.alloc (.cells #[.int .i64 0, .int .i64 0, .int .i64 0] 23)).alloc (.cells #[] 3)).heap[w.heap.size]? = some (.cells #[.int .i64 0, .int .i64 0, .int .i64 0] 23 (0, 0))) := Lib.hid (by
    rw [Below.heap_alloc _ _ _ (by simp)]; exact hz)
  have HO0 : Hid (Mine 3 1 (w.heap.size + 1) (.slice (some ⟨w.heap.size + 1, 0, none⟩) 0 0) 0 [] ((w.alloc (.cells #[.int .i64 0, .int .i64 0, .int .i64 0] 23)).alloc (.cells #[] 3))) := by
    have := Mine.new 3 1 (w.heap.size + 1) 0 [] #[] (w.alloc (.cells #[.int .i64 0, .int .i64 0, .int .i64 0] 23)) (by simp) rfl rfl (by decide)
    rw [World.size_alloc] at this
    exact this
  have hsz : (s.size : Int) ≤ 1000000 := by omega
  clear hz
  go_enter Tryd.func10, Tryd.ntmps10
  go_wp2_with fail
  go_loopw [4, 5, 6, 7] (fun sl n d i wr => ∃ (k : Nat) (done : List (List UInt8)) (cur : List UInt8), ((k ≤ s.size ∧ Hid (RdS s k done cur)) ∨ (k = s.size + 1 ∧ cur = [] ∧ Hid (done.length ≤ 1000001 ∧ dotsL s.data.toList = done ∧ ∀ x ∈ dotsL s.data.toList, wordOk x = true))) ∧
    i = .int .i64 k ∧ d = .int .i64 cur.length ∧ n = .int .i64 (wordV cur : Int) ∧ Hid (Mine 3 1 (w.heap.size + 1) sl done.length (wVs done) wr) ∧ Hid (wr.heap[w.heap.size]? = some (.cells #[.int .i64 0, .int .i64 0, .int .i64 0] 23 (0, 0))) ∧ Hid (Below w.heap.size w wr)) (fun _ _ _ i _ => s.size + 1 - (intOf i).toNat)
  case atStart => exact ⟨0, [], [], .inl ⟨Nat.zero_le _, Lib.hid (RdS.start s)⟩, rfl, rfl, rfl, HO0, HZ0, Lib.hid (by repeat (first | exact Below.refl _ _ | refine Below.drew ?_ | refine Below.alloc ?_ (by simp <;> omega) _ | refine Below.setCell ?_ (by simp <;> omega) _))⟩
  case round =>
    clear HO0 HZ0
    obtain ⟨k, done, cur, hcase, rfl, rfl, rfl, HO, HZ, HB⟩ := hrel
    have z0 : wr.cell? ⟨w.heap.size, 0, none⟩ = some (.int .i64 0) := by rw [Lib.cell_of_heap HZ.out]; rfl
    have z1 : wr.cell? ⟨w.heap.size, 1, none⟩ = some (.int .i64 0) := by rw [Lib.cell_of_heap HZ.out]; rfl
    have z2 : wr.cell? ⟨w.heap.size, 2, none⟩ = some (.int .i64 0) := by rw [Lib.cell_of_heap HZ.out]; rfl
    have f0 := Lib.frozen_of_heap HZ.out 0
    have f1 := Lib.frozen_of_heap HZ.out 1
    have f2 := Lib.frozen_of_heap HZ.out 2
    have HBZ : Hid (Below w.heap.size w (((wr.setCell ⟨w.heap.size, 0, none⟩ (.int .i64 0)).setCell ⟨w.heap.size, 1, none⟩ (.int .i64 0)).setCell ⟨w.heap.size, 2, none⟩ (.int .i64 0))) := Lib.hid (((HB.out.setCell (p := ⟨_, 0, none⟩) (Nat.le_refl _) _).setCell (p := ⟨_, 1, none⟩) (Nat.le_refl _) _).setCell (p := ⟨_, 2, none⟩) (Nat.le_refl _) _)
    rcases hcase with ⟨hk, HR⟩ | ⟨rfl, rfl, HR⟩
    · obtain ⟨hacc, hlen⟩ := HR.out.acc
      have hV := wordV_acc cur hacc
      obtain ⟨V, hVV⟩ : ∃ V, wordV cur = V := ⟨_, rfl⟩
      obtain ⟨L, hLL⟩ : ∃ L, cur.length = L := ⟨_, rfl⟩
      rw [hVV] at hV ⊢
      rw [hLL] at hlen ⊢
      have HVV := Lib.hid hVV
      have HLL := Lib.hid hLL
      have hk0 : (0 : Int) ≤ (k : Int) := by omega
      have hki : (k : Int) ≤ (s.size : Int) := by omega
      have hVi : (V : Int) ≤ 999 := by omega
      have hV0 : (0 : Int) ≤ (V : Int) := by omega
      have hL3 : L ≤ 3 := by rw [← hLL]; exact hacc.2.1
      have hLi : (L : Int) ≤ 3 := by omega
      have hdl : done.length ≤ 1000000 := by omega
      clear hacc hVV hLL
      by_cases hlt : k < s.size
      · have hkl : (k : Int) < (s.size : Int) := by omega
        have hke : ((k : Int) == (s.size : Int)) = false := by rw [beq_eq_false_iff_ne]; omega
        by_cases hc : s[k] = 46
        · have hd46 : (((s[k]).toNat : Int) == 46) = true := by rw [hc]; rfl
          obtain ⟨r1, r2⟩ := HR.out.dot hlt hc
          by_cases hL0 : L = 0
          · have hcur : cur = [] := List.length_eq_zero_iff.1 (by have := HLL.out; omega)
            have HE : Hid (v = ((0, 0, 0), 3)) := Lib.hid (by rw [← HV.out]; exact r1 hcur)
            subst hL0
            clear r1 r2 hcur hc
            go_wp2_with fail
            rw [HE.out]
            exact bodyPost_ret (v := .tuple #[.agg #[.int .i64 0, .int .i64 0, .int .i64 0], .int .i64 3]) (by simp [results, Tryd.results10, go_sem, z0, z1, z2]) rfl ⟨rfl, HBZ.out⟩
          · have hcur : cur ≠ [] := fun h => hL0 (by rw [← HLL.out, h]; rfl)
            have HN := Lib.hid (r2 hcur)
            have hLe : ((L : Int) == 0) = false := by rw [beq_eq_false_iff_ne]; omega
            clear r1 r2 hcur hc
            go_wp2_with (at_builtin; refine app_ints _ rfl _ _ (by rfl) (w.heap.size + 1) _ _ _ (by rfl) HO 1 [.int .i64 V] _ (by rfl) (by rfl) (by rfl) (by simp [Value.oneCell']) (by decide) (by omega) ?_; intro g cap w2 HO3 hb2)
            have HZ2 : Hid (w2.heap[w.heap.size]? = some (.cells #[.int .i64 0, .int .i64 0, .int .i64 0] 23 (0, 0))) := Lib.hid ((hb2.block _ (Nat.lt_succ_self _)).trans HZ.out)
            have HB2 : Hid (Below w.heap.size w w2) := Lib.hid (HB.out.trans (hb2.mono (Nat.le_succ _)))
            clear hb2
            go_wp2_with fail
            go_roundw
            case rel => exact ⟨k + 1, done ++ [cur], [], .inl ⟨by omega, HN⟩, by go_num, rfl, rfl, by rw [wVs_snoc, HVV.out, List.length_append]; exact HO3, HZ2, HB2⟩
            case measure => simp [intOf]; omega
        · have hd46 : (((s[k]).toNat : Int) == 46) = false := by
            rw [beq_eq_false_iff_ne]; intro h; exact hc (UInt8.toNat_inj.1 (by have : (46 : UInt8).toNat = 46 := rfl; omega))
          obtain ⟨r1, r2⟩ := HR.out.char hlt hc
          have hdg : dgB s[k] = decide (48 ≤ ((s[k]).toNat : Int) ∧ ((s[k]).toNat : Int) ≤ 57) := by unfold dgB; rw [decide_eq_decide]; omega
          have hvs := valF_snoc cur 0 s[k]
          generalize hcs : s[k] = c at *
          have HRD := Lib.hid (And.intro r1 (And.intro r2 (And.intro hdg hvs)))
          have hc0 : (0 : Int) ≤ (c.toNat : Int) := by omega
          have hc1 : (c.toNat : Int) ≤ 255 := by have := c.toNat_lt; omega
          clear r1 r2 hdg hvs hc
          rcases (show ((c.toNat : Int) < 48) ∨ (¬ (c.toNat : Int) < 48 ∧ 57 < (c.toNat : Int)) ∨ (¬ (c.toNat : Int) < 48 ∧ ¬ 57 < (c.toNat : Int) ∧ L = 3) ∨ (¬ (c.toNat : Int) < 48 ∧ ¬ 57 < (c.toNat : Int) ∧ L ≠ 3 ∧ 0 < L ∧ V = 0) ∨ (¬ (c.toNat : Int) < 48 ∧ ¬ 57 < (c.toNat : Int) ∧ L = 0) ∨ (¬ (c.toNat : Int) < 48 ∧ ¬ 57 < (c.toNat : Int) ∧ L ≠ 3 ∧ 0 < L ∧ V ≠ 0) by omega) with g1 | ⟨g1, g2⟩ | ⟨g1, g2, g3⟩ | ⟨g1, g2, g3, g4, g5⟩ | ⟨g1, g2, g3⟩ | ⟨g1, g2, g3, g4, g5⟩
          · have HE : Hid (v = ((0, 0, 0), 3)) := Lib.hid (by rw [← HV.out]; exact HRD.out.1 (.inl (by rw [HRD.out.2.2.1]; exact decide_eq_false (by omega))))
            go_wp2_with fail
            rw [HE.out]
            exact bodyPost_ret (v := .tuple #[.agg #[.int .i64 0, .int .i64 0, .int .i64 0], .int .i64 3]) (by simp [results, Tryd.results10, go_sem, z0, z1, z2]) rfl ⟨rfl, HBZ.out⟩
          · have HE : Hid (v = ((0, 0, 0), 3)) := Lib.hid (by rw [← HV.out]; exact HRD.out.1 (.inl (by rw [HRD.out.2.2.1]; exact decide_eq_false (by omega))))
            go_wp2_with fail
            rw [HE.out]
            exact bodyPost_ret (v := .tuple #[.agg #[.int .i64 0, .int .i64 0, .int .i64 0], .int .i64 3]) (by simp [results, Tryd.results10, go_sem, z0, z1, z2]) rfl ⟨rfl, HBZ.out⟩
          · have HE : Hid (v = ((0, 0, 0), 3)) := Lib.hid (by rw [← HV.out]; exact HRD.out.1 (.inr (.inl (by rw [HLL.out]; exact g3))))
            subst g3
            go_wp2_with fail
            rw [HE.out]
            exact bodyPost_ret (v := .tuple #[.agg #[.int .i64 0, .int .i64 0, .int .i64 0], .int .i64 3]) (by simp [results, Tryd.results10, go_sem, z0, z1, z2]) rfl ⟨rfl, HBZ.out⟩
          · have hcur : cur ≠ [] := fun h => by rw [h] at HLL; have := HLL.out; simp at this; omega
            have HE : Hid (v = ((0, 0, 0), 3)) := Lib.hid (by rw [← HV.out]; exact HRD.out.1 (.inr (.inr ⟨hcur, by rw [HVV.out]; exact g5⟩)))
            have g6 : ((L : Int) == 3) = false := by rw [beq_eq_false_iff_ne]; omega
            have g7 : 0 < (L : Int) := by omega
            subst g5
            clear hcur g3
            go_wp2_with fail
            rw [HE.out]
            exact bodyPost_ret (v := .tuple #[.agg #[.int .i64 0, .int .i64 0, .int .i64 0], .int .i64 3]) (by simp [results, Tryd.results10, go_sem, z0, z1, z2]) rfl ⟨rfl, HBZ.out⟩
          · have hcur : cur = [] := List.length_eq_zero_iff.1 (by rw [HLL.out]; exact g3)
            have HN := Lib.hid (HRD.out.2.1 (by rw [HRD.out.2.2.1]; exact decide_eq_true (by omega)) (by rw [HLL.out]; omega) (.inl hcur))
            have HW : Hid ((wordV (cur ++ [c]) : Int) = 10 * V + ((c.toNat : Int) - 48)) := Lib.hid (by
              have h1 : wordV (cur ++ [c]) = wordV cur * 10 + (c.toNat - 48) := HRD.out.2.2.2
              rw [h1, HVV.out]; omega)
            have HLN : Hid (((cur ++ [c]).length : Int) = (L : Int) + 1) := Lib.hid (by rw [List.length_append, HLL.out]; simp)
            subst g3
            clear hcur
            go_wp2_with fail
            go_roundw
            case rel => exact ⟨k + 1, done, cur ++ [c], .inl ⟨by omega, HN⟩, by go_num, by rw [HLN.out] <;> go_num, by rw [HW.out], HO, HZ, HB⟩
            case measure => simp [intOf]; omega
          · have HN := Lib.hid (HRD.out.2.1 (by rw [HRD.out.2.2.1]; exact decide_eq_true (by omega)) (by rw [HLL.out]; exact g3) (.inr (by rw [HVV.out]; exact g5)))
            have HW : Hid ((wordV (cur ++ [c]) : Int) = 10 * V + ((c.toNat : Int) - 48)) := Lib.hid (by
              have h1 : wordV (cur ++ [c]) = wordV cur * 10 + (c.toNat - 48) := HRD.out.2.2.2
              rw [h1, HVV.out]; omega)
            have HLN : Hid (((cur ++ [c]).length : Int) = (L : Int) + 1) := Lib.hid (by rw [List.length_append, HLL.out]; simp)
            have g6 : ((L : Int) == 3) = false := by rw [beq_eq_false_iff_ne]; omega
            have g7 : 0 < (L : Int) := by omega
            have g8 : ((V : Int) == 0) = false := by rw [beq_eq_false_iff_ne]; omega
            clear g3 g5
            go_wp2_with fail
            go_roundw
            case rel => exact ⟨k + 1, done, cur ++ [c], .inl ⟨by omega, HN⟩, by go_num, by rw [HLN.out] <;> go_num, by rw [HW.out], HO, HZ, HB⟩
            case measure => simp [intOf]; omega
      · obtain rfl : k = s.size := by omega
        obtain ⟨r1, r2⟩ := HR.out.stop
        by_cases hL0 : L = 0
        · have hcur : cur = [] := List.length_eq_zero_iff.1 (by have := HLL.out; omega)
          have HE : Hid (v = ((0, 0, 0), 3)) := Lib.hid (by rw [← HV.out]; exact r1 hcur)
          subst hL0
          clear r1 r2 hcur
          go_wp2_with fail
          rw [HE.out]
          exact bodyPost_ret (v := .tuple #[.agg #[.int .i64 0, .int .i64 0, .int .i64 0], .int .i64 3]) (by simp [results, Tryd.results10, go_sem, z0, z1, z2]) rfl ⟨rfl, HBZ.out⟩
        · have hcur : cur ≠ [] := fun h => hL0 (by rw [← HLL.out, h]; rfl)
          obtain ⟨r3, r4⟩ := r2 hcur
          have HN := Lib.hid (show (done ++ [cur]).length ≤ 1000001 ∧ dotsL s.data.toList = done ++ [cur] ∧ ∀ x ∈ dotsL s.data.toList, wordOk x = true from ⟨by simp; omega, r3, r4⟩)
          have hLe : ((L : Int) == 0) = false := by rw [beq_eq_false_iff_ne]; omega
          clear r1 r2 hcur r3 r4
          go_wp2_with (at_builtin; refine app_ints _ rfl _ _ (by rfl) (w.heap.size + 1) _ _ _ (by rfl) HO 1 [.int .i64 V] _ (by rfl) (by rfl) (by rfl) (by simp [Value.oneCell']) (by decide) (by omega) ?_; intro g cap w2 HO3 hb2)
          have HZ2 : Hid (w2.heap[w.heap.size]? = some (.cells #[.int .i64 0, .int .i64 0, .int .i64 0] 23 (0, 0))) := Lib.hid ((hb2.block _ (Nat.lt_succ_self _)).trans HZ.out)
          have HB2 : Hid (Below w.heap.size w w2) := Lib.hid (HB.out.trans (hb2.mono (Nat.le_succ _)))
          clear hb2
          go_wp2_with fail
          go_roundw
          case rel => exact ⟨s.size + 1, done ++ [cur], [], .inr ⟨rfl, rfl, HN⟩, by go_num, rfl, rfl, by rw [wVs_snoc, HVV.out, List.length_append]; exact HO3, HZ2, HB2⟩
          case measure => simp [intOf]
    · obtain ⟨hdl, hde, hdo⟩ := HR.out
      by_cases h3 : done.length = 3
      · obtain ⟨a, b, c, rfl⟩ : ∃ a b c, done = [a, b, c] := by
          match done, h3 with
          | [a, b, c], _ => exact ⟨a, b, c, rfl⟩
        have HE : Hid (v = (((wordV a : Int), (wordV b : Int), (wordV c : Int)), 0)) := Lib.hid (by rw [← HV.out]; exact parse_ok _ a b c hde hdo)
        obtain ⟨g, cap, rfl⟩ := HO.out.shape (by simp)
        have e0 : wr.cell? ⟨g, 0, none⟩ = some (.int .i64 (wordV a : Int)) := HO.out.cell 0 (by simp)
        have e1 : wr.cell? ⟨g, 1, none⟩ = some (.int .i64 (wordV b : Int)) := HO.out.cell 1 (by simp)
        have e2 : wr.cell? ⟨g, 2, none⟩ = some (.int .i64 (wordV c : Int)) := HO.out.cell 2 (by simp)
        simp only [List.length_cons, List.length_nil, Nat.reduceAdd]
        clear hdl hde hdo h3 HR HO
        go_wp2_with fail
        go_region
        all_goals
          go_wp2_with fail
          rw [HE.out]
          exact bodyPost_ret (v := .tuple #[.agg #[.int .i64 (wordV a), .int .i64 (wordV b), .int .i64 (wordV c)], .int .i64 0]) (by simp [results, Tryd.results10, go_sem, z0, z1, z2]) rfl ⟨rfl, by first | exact (((HB.out.drew.setCell (p := ⟨_, 0, none⟩) (Nat.le_refl _) _).setCell (p := ⟨_, 1, none⟩) (Nat.le_refl _) _).setCell (p := ⟨_, 2, none⟩) (Nat.le_refl _) _) | exact (((HB.out.setCell (p := ⟨_, 0, none⟩) (Nat.le_refl _) _).setCell (p := ⟨_, 1, none⟩) (Nat.le_refl _) _).setCell (p := ⟨_, 2, none⟩) (Nat.le_refl _) _).drew⟩
      · have HE : Hid (v = ((0, 0, 0), 3)) := Lib.hid (by rw [← HV.out]; exact parse_len _ (by rw [hde]; exact h3))
        have h4 : ((done.length : Int) != 3) = true := by simpa using (by omega : ¬ (done.length : Int) = 3)
        obtain ⟨g, cap, rfl⟩ := HO.out.shape (by rw [← hde]; exact List.length_pos_iff.2 (dotsL_ne _))
        clear hde hdo h3
        go_wp2_with fail
        rw [HE.out]
        exact bodyPost_ret (v := .tuple #[.agg #[.int .i64 0, .int .i64 0, .int .i64 0], .int .i64 3]) (by simp [results, Tryd.results10, go_sem, z0, z1, z2]) rfl ⟨rfl, HBZ.out⟩
end Go.Proofs.YtbpgbbdebhmlkaaDoor
