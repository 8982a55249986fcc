/- The statement on returns: its walk. -/
import Derived.Test.YtmlfoffahfbalaaDoorWritten
import Derived.Test.YtmlfoffahfbalaaDoorTwo2
import Derived.Test.YtmlfoffahfbalaaDoorPlainGap2
import Derived.Test.YtmlfoffahfbalaaDoorPlainTake
import Derived.Test.YtmlfoffahfbalaaDoorPlainSum
namespace Go.Proofs.YtmlfoffahfbalaaDoor
open Go Go.RowKit

/-- a gap's text. -/
def IsGap (gp : ByteArray) (n : Nat) : Prop := gp.data.toList = gap5 n

set_option maxRecDepth 100000 in
set_option maxHeartbeats 40000000 in
theorem LexerReturns_any (s : ByteArray) (kv : Value) (ks : List UInt8) (w : World) (hm : MaxOk w)
    (hkv : (ks = [] ∧ ∃ a c, kv = .slice a 0 c) ∨ ∃ b off cap, kv = .slice (some ⟨b, off, none⟩) ks.length cap ∧ b < w.heap.size ∧ ∀ (i : Nat) (h : i < ks.length), w.cell? ⟨b, off + i, none⟩ = some (.int .u8 (ks[i]).toNat)) :
    Calls Tryd.prog 7 #[.string s, kv] w fun e w' => e = .returned (.bool true) ∧ Below w.heap.size w w' := by
  have HA := Lib.hid (awake_any w hm)
  have hks : ∃ a c, kv = .slice a ks.length c := by
    rcases hkv with ⟨h1, a, c, h⟩ | ⟨b, off, cap, h, _⟩
    · exact ⟨a, c, by rw [h, h1]; rfl⟩
    · exact ⟨_, _, h⟩
  obtain ⟨ka, kc, hkv2⟩ := hks
  by_cases h : 1000 < s.size ∨ 1000 < ks.length
  · have h2 : (1000 < (s.size : Int)) ∨ (¬ 1000 < (s.size : Int) ∧ 1000 < (ks.length : Int)) := by omega
    subst hkv2
    clear hkv h
    rcases h2 with h2 | ⟨h2, h3⟩
    all_goals
      go_enter Tryd.func7, Tryd.ntmps7
      go_wp2_with fail
      refine HA.out.mono ?_
      rintro e w1 ⟨rfl, hb⟩
      go_wp2_with fail
      go_ret
      exact ⟨rfl, hb⟩
  · have h2 : ¬ 1000 < (s.size : Int) := by omega
    have h3 : ¬ 1000 < (ks.length : Int) := by omega
    rcases lex_cases s (by omega) with ⟨ys, h4, h5⟩ | ⟨ys, b, h4, h5, h6, h7⟩
    · have HE := Lib.hid h5
      have HR := Lib.hid h4
      have HLN := Lib.hid (Runs.len h4)
      have HKV := Lib.hid hkv
      subst hkv2
      clear hkv h h4 h5
      go_enter Tryd.func7, Tryd.ntmps7
      go_wp2_with fail
      refine HA.out.mono ?_
      rintro e w1 ⟨rfl, hb⟩
      have hm1 := hm.below hb hm.pos
      have HB := Lib.hid hb
      clear hb
      go_wp2_with fail
      refine (Lex_any s w1 hm1).mono ?_
      rintro e w2 ⟨v, rfl, hv, -, hb2⟩
      have HB2 := Lib.hid (HB.out.trans (hb2.mono HB.out.size))
      have hm2 := hm1.below hb2 hm1.pos
      clear hb2
      rw [HE.out] at hv ⊢
      simp only at hv ⊢
      have e1 : (ys.map keyY ++ [((0 : Int), ([] : List UInt8), s.size)]).length = ys.length + 1 := by simp
      obtain ⟨g, cap, rfl⟩ := hv.shape (by rw [e1]; exact Nat.succ_pos _)
      have HG := Lib.hid hv.ge.2
      have HT := Lib.hid (fun i x hx => hv.tok i x hx)
      rw [e1]
      clear hv e1
      obtain ⟨toks, htoks⟩ : ∃ toks, ys.map keyY ++ [((0 : Int), ([] : List UInt8), s.size)] = toks := ⟨_, rfl⟩
      rw [htoks] at HT
      obtain ⟨kts, hkts⟩ : ∃ kts, toks.map (fun x => (x.1, x.2.1)) = kts := ⟨_, rfl⟩
      obtain ⟨B, hBe⟩ : ∃ B, B = w2.heap.size := ⟨_, rfl⟩
      obtain ⟨m, hmm⟩ : ∃ m, ys.length = m := ⟨_, rfl⟩
      have hml : m ≤ 1000 := by have := HLN.out; omega
      have HTL : Hid (toks.length = m + 1) := Lib.hid (by rw [← htoks, ← hmm]; simp)
      have HTK := Lib.hid htoks
      have HKT := Lib.hid hkts
      have HBE := Lib.hid hBe
      have HMM := Lib.hid hmm
      rw [hmm]
      have HTW : Hid (Two B w2.heap.size (w2.heap.size + 1) (Lib.byteCells (plainL (kts.take 0))) (Lib.byteCells (otherL ((zipK ks kts).take 0))) ((w2.alloc (.cells #[.pointer none, .slice none 0 0] 40)).alloc (.cells #[.pointer none, .slice none 0 0] 40)))  := Lib.hid (by have := Two.start w2; have e : B = w2.heap.size := hBe; rw [e]; exact this)
      have HBW : Hid (Below w2.heap.size w2 ((w2.alloc (.cells #[.pointer none, .slice none 0 0] 40)).alloc (.cells #[.pointer none, .slice none 0 0] 40))) := Lib.hid (((Below.refl _ _).alloc (Nat.le_refl _) _).alloc (by simp) _)
      have hke : kts = ys.map (fun y => (y.kind, y.text.data.toList)) ++ [(0, [])] := by rw [← hkts, ← htoks, List.map_append, List.map_map]; rfl
      have hsum : (kts.map (fun t => (writtenL t.1 t.2).length)).sum ≤ 4000 := by
        have := run_sum s ys _ _ HR.out
        rw [hke, List.map_append, List.map_map, List.sum_append]
        have e0 : (List.map (fun t : Int × List UInt8 => (writtenL t.1 t.2).length) [(0, [])]).sum = 0 := rfl
        rw [e0]
        have e2 : ((fun t : Int × List UInt8 => (writtenL t.1 t.2).length) ∘ fun y : Yld => (y.kind, y.text.data.toList)) = fun y : Yld => (writtenL y.kind y.text.data.toList).length := rfl
        rw [e2]; omega
      have hkl : kts.length = m + 1 := by rw [hke]; simp; omega
      have HLP : Hid (∀ k, (plainL (kts.take k)).length ≤ 6000) := Lib.hid (fun k => by have := plain_take kts k; rw [plain_len kts] at this; omega)
      have HLO : Hid (∀ k, (otherL ((zipK ks kts).take k)).length ≤ 20000) := Lib.hid (fun k => by
        have h1 := other_take (zipK ks kts) k
        have h2 := other_len (zipK ks kts)
        have h3 : ((zipK ks kts).map (fun t => (writtenL t.2.1 t.2.2).length)) = kts.map (fun t => (writtenL t.1 t.2).length) := by
          conv => rhs; rw [← zipK_map ks kts, List.map_map]
          rfl
        rw [h3, zipK_length] at h2
        omega)
      have HTS : Hid (∀ y ∈ ys, y.text.size ≤ 1000) := Lib.hid (fun y hy => by have := run_text s ys _ _ HR.out y hy; omega)
      have HKE := Lib.hid hke
      clear htoks hkts hBe hmm hke hsum hkl
      go_wp2_with fail
      go_loopw [42] (fun i wr => ∃ k : Nat, k ≤ m + 1 ∧ i = .int .i64 k ∧ Hid (Two B w2.heap.size (w2.heap.size + 1) (Lib.byteCells (plainL (kts.take k))) (Lib.byteCells (otherL ((zipK ks kts).take k))) wr) ∧ Hid (Below w2.heap.size w2 wr)) (fun i _ => m + 1 - (intOf i).toNat)
      case atStart => exact ⟨0, Nat.zero_le _, rfl, HTW, HBW⟩
      case round =>
        clear HTW HBW
        obtain ⟨k, hk, rfl, HTW, HBW⟩ := hrel
        by_cases hlt : k < m + 1
        · obtain ⟨x, hx⟩ : ∃ x, toks[k]? = some x := ⟨_, List.getElem?_eq_getElem (by have := HTL.out; omega)⟩
          obtain ⟨c1, c2, c3⟩ := HT.out k x hx
          obtain ⟨kd, tl, of⟩ := x
          simp only at c1 c2 c3
          rw [Nat.mul_comm, ← HBW.out.cell HG.out] at c1 c2 c3
          have hlt2 : (k : Int) < m + 1 := by omega
          have hmi : (m : Int) ≤ 1000 := by omega
          have hkt : kts[k]? = some (kd, tl) := by rw [← HKT.out, List.getElem?_map, hx]; rfl
          have HP : Hid (plainL (kts.take (k + 1)) = plainL (kts.take k) ++ (writtenL kd tl ++ [32])) := Lib.hid (by rw [take_snoc _ _ _ hkt, plainL_snoc])
          have HOt : Hid (otherL ((zipK ks kts).take (k + 1)) = otherL ((zipK ks kts).take k) ++ (gap5 (kNum ks k) ++ writtenL kd tl)) := Lib.hid (by rw [take_snoc _ _ _ (zipK_get ks kts k _ hkt), otherL_snoc])
          obtain ⟨tx, htx⟩ : ∃ tx : ByteArray, (⟨tl.toArray⟩ : ByteArray) = tx := ⟨_, rfl⟩
          have HTX : Hid (tx.data.toList = tl) := Lib.hid (by rw [← htx])
          rw [htx] at c2
          have HKM := Lib.hid hkt
          clear hx hkt htx
          have hts : tx.size ≤ 1000000 := by
            have hm5 : (kd, tl) ∈ kts := List.mem_of_getElem? HKM.out
            rw [HKE.out, List.mem_append] at hm5
            rcases hm5 with hm5 | hm5
            · obtain ⟨y, hy1, hy2⟩ := List.mem_map.1 hm5
              have := HTS.out y hy1
              rw [Lib.size_eq, HTX.out]
              cases hy2
              rw [Lib.size_eq] at this
              omega
            · rw [List.mem_singleton] at hm5
              cases hm5
              rw [Lib.size_eq, HTX.out]; simp
          have HC : Hid (∀ hkl : k < ks.length, ∃ b off, ka = some ⟨b, off, none⟩ ∧ (wr.alloc (.cells #[.int .i64 kd, .string tx, .int .i64 of] 36)).cell? ⟨b, off + k, none⟩ = some (.int .u8 (ks[k]).toNat)) := Lib.hid (fun hkl => by
            rcases HKV.out with ⟨h1, _⟩ | ⟨b, off, cap, h1, h2, h3⟩
            · rw [h1] at hkl; exact absurd hkl (by simp)
            · cases h1
              refine ⟨b, off, rfl, ?_⟩
              have e1 : b < wr.heap.size := by have := HB2.out.size; have := HBW.out.size; omega
              rw [((Below.refl _ wr).alloc (Nat.le_refl _) _).cell (p := ⟨b, off + k, none⟩) e1, HBW.out.cell (p := ⟨b, off + k, none⟩) (by have := HB2.out.size; show b < _; omega), HB2.out.cell (p := ⟨b, off + k, none⟩) h2]
              exact h3 k hkl)
          have hcase : (¬ (k : Int) < ks.length ∧ kNum ks k = 0) ∨ ∃ c : UInt8, (k : Int) < ks.length ∧ (∃ b off, ka = some ⟨b, off, none⟩ ∧ (wr.alloc (.cells #[.int .i64 kd, .string tx, .int .i64 of] 36)).cell? ⟨b, off + k, none⟩ = some (.int .u8 c.toNat)) ∧
              (((c.toNat : Int) % 5 = 0 ∧ kNum ks k = 0) ∨ ((c.toNat : Int) % 5 = 1 ∧ kNum ks k = 1) ∨ ((c.toNat : Int) % 5 = 2 ∧ kNum ks k = 2) ∨ ((c.toNat : Int) % 5 = 3 ∧ kNum ks k = 3) ∨ ((c.toNat : Int) % 5 = 4 ∧ kNum ks k = 4)) := by
            by_cases hkl : k < ks.length
            · refine .inr ⟨ks[k], by omega, HC.out hkl, ?_⟩
              have e : kNum ks k = (ks[k]).toNat % 5 := by unfold kNum; rw [List.getElem?_eq_getElem hkl]
              rw [e]; omega
            · exact .inl ⟨by omega, by unfold kNum; rw [List.getElem?_eq_none (by omega)]⟩
          clear HC
          have hcase2 : (¬ (k : Int) < ks.length ∧ Hid (IsGap ⟨#[32]⟩ (kNum ks k))) ∨ ∃ c : UInt8, (k : Int) < ks.length ∧ (∃ b off, ka = some ⟨b, off, none⟩ ∧ (wr.alloc (.cells #[.int .i64 kd, .string tx, .int .i64 of] 36)).cell? ⟨b, off + k, none⟩ = some (.int .u8 c.toNat)) ∧
              (((c.toNat : Int) % 5 = 0 ∧ Hid (IsGap ⟨#[32]⟩ (kNum ks k))) ∨ ((c.toNat : Int) % 5 = 1 ∧ Hid (IsGap ⟨#[9]⟩ (kNum ks k))) ∨ ((c.toNat : Int) % 5 = 2 ∧ Hid (IsGap ⟨#[13, 10]⟩ (kNum ks k))) ∨
               ((c.toNat : Int) % 5 = 3 ∧ Hid (IsGap ⟨#[32, 47, 47, 32, 34, 32, 47, 47, 32, 120, 10]⟩ (kNum ks k))) ∨ ((c.toNat : Int) % 5 = 4 ∧ Hid (IsGap ⟨#[32, 47, 47, 10, 10]⟩ (kNum ks k)))) := by
            rcases hcase with ⟨h1, h2⟩ | ⟨c, h1, h2, h3⟩
            · exact .inl ⟨h1, Lib.hid (by rw [h2]; rfl)⟩
            · refine .inr ⟨c, h1, h2, ?_⟩
              rcases h3 with ⟨h3, h4⟩ | ⟨h3, h4⟩ | ⟨h3, h4⟩ | ⟨h3, h4⟩ | ⟨h3, h4⟩
              · exact .inl ⟨h3, Lib.hid (by rw [h4]; rfl)⟩
              · exact .inr (.inl ⟨h3, Lib.hid (by rw [h4]; rfl)⟩)
              · exact .inr (.inr (.inl ⟨h3, Lib.hid (by rw [h4]; rfl)⟩))
              · exact .inr (.inr (.inr (.inl ⟨h3, Lib.hid (by rw [h4]; rfl)⟩)))
              · exact .inr (.inr (.inr (.inr ⟨h3, Lib.hid (by rw [h4]; rfl)⟩)))
          clear hcase
          rcases hcase2 with ⟨hkl2, HGP⟩ | ⟨c, hkl2, ⟨bk, ok, rfl, hck⟩, hcase⟩
          rotate_left
          have hc0 : 0 ≤ (c.toNat : Int) := by omega
          have hc1 : (c.toNat : Int) ≤ 255 := by have := c.toNat_lt; omega
          rcases hcase with ⟨hmod, HGP⟩ | ⟨hmod, HGP⟩ | ⟨hmod, HGP⟩ | ⟨hmod, HGP⟩ | ⟨hmod, HGP⟩
          all_goals
            go_wp2_with fail
            refine (written_any kd tx _ _ hts).mono ?_
            rintro e w3 ⟨rfl, hb3⟩
            rw [HTX.out]
            obtain ⟨wt, hwt⟩ : ∃ wt : ByteArray, (⟨(writtenL kd tl).toArray⟩ : ByteArray) = wt := ⟨_, rfl⟩
            rw [hwt]
            have hwl : wt.size ≤ 4000002 := by rw [Lib.size_eq, ← hwt]; show (writtenL kd tl).length ≤ _; have := written_le kd tl; rw [← HTX.out, ← Lib.size_eq] at this; rw [← HTX.out]; omega
            have hno1 : ¬ 9223372036854775807 < wt.size + (⟨#[32]⟩ : ByteArray).size := by have : (⟨#[32]⟩ : ByteArray).size = 1 := rfl; omega
            have hno2 : ¬ 9223372036854775806 < wt.size := by omega
            have hno3 : ¬ 9223372036854775807 < wt.size + 1 := by omega
            have hno4 : ¬ 9223372036854775807 < 1 + wt.size := by omega
            have hno5 : ¬ 9223372036854775807 < 2 + wt.size := by omega
            have hno6 : ¬ 9223372036854775807 < 5 + wt.size := by omega
            have hno7 : ¬ 9223372036854775807 < 11 + wt.size := by omega
            have HWT := Lib.hid hwt
            have HWL := Lib.hid hwl
            clear hwt
            have hbox := heap_alloc_new wr (.cells #[.int .i64 kd, .string tx, .int .i64 of] 36)
            have HBX : Hid (w3.heap[wr.heap.size]? = some (.cells #[.int .i64 kd, .string tx, .int .i64 of] 36 (0, 0)) ∧ Below wr.heap.size wr w3) := Lib.hid (by
              refine ⟨?_, ((((Below.refl _ _).alloc (Nat.le_refl _) _).alloc (by simp) _).trans (hb3.mono (by simp; omega)))⟩
              rw [hb3.block _ (by simp only [World.size_alloc]; omega), Below.heap_alloc _ _ _ (by simp)]; exact hbox)
            have hsz3 : wr.heap.size < w3.heap.size := (Array.getElem?_eq_some_iff.1 HBX.out.1).1
            clear hb3 hbox
            have HWK := Lib.hid (Two.write_keep B _ _ _ _ (wt ++ ⟨#[32]⟩) wr w3 HTW.out HBX.out.2 (by rw [Lib.byteCells_length, size_join]; have := HLP.out k; have : (⟨#[32]⟩ : ByteArray).size = 1 := rfl; omega))
            go_wp2_with fail
            (with_reducible refine HWK.out.mono ?_)
            rintro e w4 ⟨rfl, htw4, hb4, hs4, hk4⟩
            have hbox4 : w4.heap[wr.heap.size]? = some (.cells #[.int .i64 kd, .string tx, .int .i64 of] 36 (0, 0)) := (hk4 _ (Nat.le_refl _) hsz3).trans HBX.out.1
            rw [cells_join _ (writtenL kd tl ++ [32]) _ (by rw [data_join, ← HWT.out]), ← HP.out] at htw4
            have d1 : w4.cell? ⟨wr.heap.size, 0, none⟩ = some (.int .i64 kd) := by rw [Lib.cell_of_heap hbox4]; rfl
            have d2 : w4.cell? ⟨wr.heap.size, 1, none⟩ = some (.string tx) := by rw [Lib.cell_of_heap hbox4]; rfl
            have d3 : w4.cell? ⟨wr.heap.size, 2, none⟩ = some (.int .i64 of) := by rw [Lib.cell_of_heap hbox4]; rfl
            have HTW4 := Lib.hid htw4
            have HB4 : Hid (Below B w2 w4) := Lib.hid (by have e := HBE.out; rw [← e] at HBW; exact (HBW.out.trans (HBX.out.2.mono (by rw [e]; exact HBW.out.size))).trans hb4)
            clear htw4 hb4 hs4 hk4 hbox4 hsz3
            go_wp2_with fail
            refine (written_any kd tx _ _ hts).mono ?_
            rintro e w5 ⟨rfl, hb5⟩
            rw [HTX.out, HWT.out]
            have HB5 := Lib.hid hb5
            clear hb5
            have HWK5 := fun gp : ByteArray => fun hgp : IsGap gp (kNum ks k) => Lib.hid (Two.write_keep B _ _ _ _ (gp ++ wt) _ w5 HTW4.out.swap HB5.out (by rw [Lib.byteCells_length, size_join]; have := HLO.out k; have := HWL.out; have : gp.size ≤ 11 := (by rw [Lib.size_eq, hgp]; exact gap5_len _); omega))
            have HWK6 := HWK5 _ HGP.out
            clear HWK5
            go_wp2_with fail
            (with_reducible refine HWK6.out.mono ?_)
            rintro e w6 ⟨rfl, htw6, hb6, -, -⟩
            rw [cells_join _ (gap5 (kNum ks k) ++ writtenL kd tl) _ (by rw [data_join, ← HWT.out, HGP.out]), ← HOt.out] at htw6
            have HTW6 := Lib.hid htw6.swap
            have HB6 : Hid (Below w2.heap.size w2 w6) := Lib.hid (by have e := HBE.out; rw [← e]; exact (HB4.out.trans (HB5.out.mono (by rw [e]; exact (e ▸ HB4.out).size))).trans hb6)
            clear htw6 hb6
            go_wp2_with fail
            refine ⟨?_, ?measure⟩
            iterate 20 apply Exists.intro
            repeat apply Exists.intro
            refine ⟨?rel, rfl⟩
            case rel => exact ⟨k + 1, by omega, by go_num, HTW6, HB6⟩
            case measure => simp [intOf]; omega
        · obtain rfl : k = m + 1 := by omega
          have hkl : kts.length = m + 1 := by rw [← HKT.out, List.length_map]; exact HTL.out
          have hpl : (plainL kts).length ≤ 6000 := by have := HLP.out (m + 1); rw [List.take_of_length_le (by omega)] at this; exact this
          have hol : (otherL (zipK ks kts)).length ≤ 20000 := by have := HLO.out (m + 1); rw [List.take_of_length_le (by rw [zipK_length]; omega)] at this; exact this
          rw [List.take_of_length_le (by omega), List.take_of_length_le (by rw [zipK_length]; omega)] at HTW
          have hke : kts = ys.map (fun y => (y.kind, y.text.data.toList)) ++ [(0, [])] := HKE.out
          have hgood : ∀ t ∈ ys.map (fun y => (y.kind, y.text.data.toList)), Good t.1 t.2 := by
            intro t ht
            obtain ⟨y, hy1, rfl⟩ := List.mem_map.1 ht
            exact run_good s ys _ _ HR.out y hy1
          obtain ⟨p, hp⟩ : ∃ p : ByteArray, (⟨(plainL kts).toArray⟩ : ByteArray) = p := ⟨_, rfl⟩
          obtain ⟨q, hq⟩ : ∃ q : ByteArray, (⟨(otherL (zipK ks kts)).toArray⟩ : ByteArray) = q := ⟨_, rfl⟩
          have hpd : p.data.toList = plainL kts := by rw [← hp]
          have hqd : q.data.toList = otherL (zipK ks kts) := by rw [← hq]
          have hpx := plain_lex p _ hgood (by rw [hpd, hke]) (by rw [Lib.size_eq, hpd]; omega)
          rw [← hke] at hpx
          have hz : ∃ zl kf, zipK ks kts = zl ++ [(kf, 0, [])] ∧ zl.map (·.2) = ys.map (fun y => (y.kind, y.text.data.toList)) := by
            refine ⟨(zipK ks kts).take m, kNum ks m, ?_, ?_⟩
            · have h1 : kts[m]? = some (0, []) := by rw [hke, List.getElem?_append_right (by have := HMM.out; simp only [List.length_map]; omega), List.length_map, HMM.out, Nat.sub_self]; rfl
              have := take_snoc _ _ _ (zipK_get ks kts m _ h1)
              rw [List.take_of_length_le (by rw [zipK_length]; omega)] at this
              exact this
            · rw [List.map_take, zipK_map, hke, List.take_append_of_le_length (by rw [List.length_map, HMM.out]; omega), List.take_of_length_le (by rw [List.length_map, HMM.out]; omega)]
          obtain ⟨zl, kf, hz1, hz2⟩ := hz
          have hqx := other_lex q zl kf (fun x hx => hgood x.2 (by rw [← hz2]; exact List.mem_map.2 ⟨x, hx, rfl⟩)) (by rw [hqd, hz1]) (by rw [Lib.size_eq, hqd]; omega)
          rw [hz2, ← hke] at hqx
          have hne : plainL kts ≠ [] := by
            intro h
            have := plain_len kts
            rw [h, List.length_nil] at this
            omega
          have hne2 : otherL (zipK ks kts) ≠ [] := by
            rw [hz1, otherL_snoc]
            intro h
            have h5 := congrArg List.length h
            simp only [List.length_append, List.length_nil] at h5
            have : 0 < (gap5 kf).length := by unfold gap5; split <;> simp
            omega
          have HT1 := Lib.hid (Two.text _ _ _ _ _ _ HTW.out hne)
          have HP := Lib.hid hp
          have HQ := Lib.hid hq
          have HPX := Lib.hid hpx
          have HQX := Lib.hid hqx
          have HNE := Lib.hid hne2
          have hmr := hm2.below HBW.out hm2.pos
          clear hkl hpl hol hke hgood hp hq hpd hqd hpx hqx hne hne2 hz1 hz2
          go_wp2_with fail
          (with_reducible refine HT1.out.mono ?_)
          rintro e w3 ⟨rfl, hb3, r2, hbt⟩
          rw [HP.out]
          have HB3 : Hid (Below w2.heap.size w2 w3) := Lib.hid (by have e := HBE.out; rw [e] at hb3; exact HBW.out.trans hb3)
          have hm3 := hm2.below HB3.out hm2.pos
          have HBT := Lib.hid hbt
          clear hb3 hbt
          go_wp2_with fail
          refine (Lex_any p w3 hm3).mono ?_
          rintro e w4 ⟨v4, rfl, hv4, -, hb4⟩
          rw [HPX.out.1]
          have HV4 := Lib.hid hv4
          have hbt4 := HBT.out.keep (hb4.block _ HBT.out.lt) (fun k hk => hb4.block k (HBT.out.row_lt hk).1)
          have HS := Lib.hid (String_two _ _ _ _ w4 hbt4 HNE.out)
          have HR2 : Hid (∀ k, r2 = some k → k < w3.heap.size) := Lib.hid (fun k hk => (HBT.out.row_lt hk).1)
          have HB4 : Hid (Below w2.heap.size w2 w4) := Lib.hid (HB3.out.trans (hb4.mono HB3.out.size))
          have HS34 := Lib.hid hb4.size
          clear hv4 hb4 hbt4
          go_wp2_with fail
          (with_reducible refine HS.out.mono ?_)
          rintro e w5 ⟨rfl, hb5, hs5, hk5⟩
          rw [HQ.out]
          have HB5 : Hid (Below w2.heap.size w2 w5) := Lib.hid (by have e := HBE.out; rw [e] at hb5; exact HB4.out.trans hb5)
          have hm5 := hm2.below HB5.out hm2.pos
          have HV5 : Hid (Mine 36 3 w3.heap.size v4 (lexS p).toks.length (tokCells (lexS p).toks) w5) := Lib.hid (HV4.out.far hs5 (fun k hk1 hk2 => hk5 k (fun e => by have := HR2.out k e.symm; omega)))
          clear hb5 hs5 hk5
          go_wp2_with fail
          refine (Lex_any q w5 hm5).mono ?_
          rintro e w6 ⟨v6, rfl, hv6, -, hb6⟩
          rw [HQX.out.1]
          have HV6 := Lib.hid hv6
          have HB6 : Hid (Below w2.heap.size w2 w6) := Lib.hid (HB5.out.trans (hb6.mono HB5.out.size))
          have HV46 : Hid (Mine 36 3 w3.heap.size v4 (lexS p).toks.length (tokCells (lexS p).toks) w6) := Mine.below HV5 hb6
          have HLL : Hid ((lexS p).toks.length ≤ 1000000 ∧ (lexS q).toks.length ≤ 1000000) := Lib.hid (by
            have h1 := congrArg List.length HPX.out.2
            have h2 := congrArg List.length HQX.out.2
            have h3 : kts.length = m + 1 := by rw [← HKT.out, List.length_map]; exact HTL.out
            rw [List.length_map] at h1 h2
            omega)
          have HRL := Lib.hid (fun (wx : World) (hbx : Below w2.heap.size w2 wx) => Lib.hid (reads_of (l := toks) g cap HG.out HT.out hbx))
          rw [HTL.out] at HRL
          clear hv6 hb6
          go_wp2_with fail
          refine (Same_kt v4 _ (lexS p).toks toks w6 HLL.out.1 (by rw [HPX.out.2, HKT.out]) (Lib.hid (HV46.out.reads (Below.refl _ _))) (HRL.out w6 HB6.out)).mono ?_
          rintro e w7 ⟨rfl, hb7⟩
          have HB7 : Hid (Below w2.heap.size w2 w7) := Lib.hid (HB6.out.trans (hb7.mono HB6.out.size))
          have HR7 := Lib.hid (HV6.out.reads hb7)
          clear hb7
          go_wp2_with fail
          refine (Same_kt v6 _ (lexS q).toks toks w7 HLL.out.2 (by rw [HQX.out.2, HKT.out]) HR7 (HRL.out w7 HB7.out)).mono ?_
          rintro e w8 ⟨rfl, hb8⟩
          have HB8 : Hid (Below w.heap.size w w8) := Lib.hid (HB2.out.trans ((HB7.out.trans (hb8.mono HB7.out.size)).mono HB2.out.size))
          clear hb8
          go_wp2_with fail
          go_ret
          exact ⟨rfl, HB8.out⟩
    · have HE := Lib.hid h7
      obtain ⟨er, her⟩ : ∃ er, (tokS s b).err = er := ⟨_, rfl⟩
      rw [her] at HE h6
      have h8 : (er == 0) = false := by rw [beq_eq_false_iff_ne]; exact h6
      have H6 := Lib.hid h6
      subst hkv2
      clear hkv h h4 h5 h6 h7 her
      go_enter Tryd.func7, Tryd.ntmps7
      go_wp2_with fail
      refine HA.out.mono ?_
      rintro e w1 ⟨rfl, hb⟩
      have hm1 := hm.below hb hm.pos
      have HB := Lib.hid hb
      clear hb
      go_wp2_with fail
      refine (Lex_any s w1 hm1).mono ?_
      rintro e w2 ⟨v, rfl, -, hv, hb2⟩
      have HB2 := Lib.hid (HB.out.trans (hb2.mono HB.out.size))
      clear hb2
      rw [HE.out] at hv ⊢
      obtain rfl := hv H6.out
      clear hv
      simp only
      go_wp2_with fail
      go_ret
      exact ⟨rfl, HB2.out⟩
end Go.Proofs.YtmlfoffahfbalaaDoor
