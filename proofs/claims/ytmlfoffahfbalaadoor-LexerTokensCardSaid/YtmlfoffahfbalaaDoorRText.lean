/- Contract of the reference's text. -/
import Derived.Test.YtmlfoffahfbalaaDoorRChar
import Derived.Test.YtmlfoffahfbalaaDoorOwn
import Derived.Test.YtmlfoffahfbalaaDoorLib
namespace Go.Proofs.YtmlfoffahfbalaaDoor
open Go Go.RowKit

/-- what a token function leaves: the token at the beginning, its length, or the error. -/
def TokR (T : Tok) (w : World) (e : Ending) (w' : World) : Prop :=
  (∃ (k : Int) (t : ByteArray) (n : Int), e = .returned (.tuple #[.agg #[.int .i64 k, .string t, .int .i64 0], .int .i64 n, .int .i64 T.err]) ∧ (T.err = 0 → k = T.kind ∧ t = ⟨T.text.toArray⟩ ∧ n = T.n)) ∧ Below w.heap.size w w'
theorem TokR.bad {T : Tok} {w w' : World} {x : Int} (h : Hid (T.err = x ∧ x ≠ 0)) (hb : Below w.heap.size w w') : TokR T w (.returned (.tuple #[.agg #[.int .i64 0, .string ⟨#[]⟩, .int .i64 0], .int .i64 0, .int .i64 x])) w' :=
  ⟨⟨0, ⟨#[]⟩, 0, by rw [h.out.1], fun h2 => absurd (h.out.1.symm.trans h2) h.out.2⟩, hb⟩
theorem TokR.ok {T : Tok} {w w' : World} {k : Int} {l : List UInt8} {n : Nat} {t : ByteArray} {m : Int} (h : Hid (T = ⟨k, l, n, 0⟩)) (ht : t = ⟨l.toArray⟩) (hm : m = n) (hb : Below w.heap.size w w') : TokR T w (.returned (.tuple #[.agg #[.int .i64 k, .string t, .int .i64 0], .int .i64 m, .int .i64 0])) w' :=
  ⟨⟨k, t, m, by rw [h.out], fun _ => by rw [h.out]; exact ⟨rfl, ht, hm⟩⟩, hb⟩

/-- a new block of three cells, behind what leaves it. -/
theorem cells_of_one {w w' : World} {a0 a1 a2 : Value} {t : TypeId} (hb : Below (w.heap.size + 1) (w.alloc (.cells #[a0, a1, a2] t)) w') :
    w'.cell? ⟨w.heap.size, 0, none⟩ = some a0 ∧ w'.cell? ⟨w.heap.size, 1, none⟩ = some a1 ∧ w'.cell? ⟨w.heap.size, 2, none⟩ = some a2 ∧
    w'.frozen? ⟨w.heap.size, 0, none⟩ = false ∧ w'.frozen? ⟨w.heap.size, 1, none⟩ = false ∧ w'.frozen? ⟨w.heap.size, 2, none⟩ = false ∧ w.heap.size < w'.heap.size := by
  have hs := hb.size
  simp only [World.size_alloc] at hs
  refine ⟨?_, ?_, ?_, ?_, ?_, ?_, by omega⟩
  all_goals first
    | (rw [hb.cell (Nat.lt_succ_self _)]; rw [World.cell?_alloc_at _ _ _ _ rfl]; rfl)
    | (rw [hb.frozen (Nat.lt_succ_self _)]; rw [World.frozen?_alloc_at _ _ _ _ rfl])
theorem step_meas (s k n : Nat) (h8 : k + n ≤ s) (h9 : 1 ≤ n) : s - ((k : Int) + n).toNat < s - ((k : Int)).toNat := by omega
/-- a store into the three cells of the result leaves what lay before. -/
theorem below_set3 {w w' : World} (h : Below w.heap.size w w') (v0 v1 v2 : Value) : Below w.heap.size w (((w'.setCell ⟨w.heap.size, 0, none⟩ v0).setCell ⟨w.heap.size, 1, none⟩ v1).setCell ⟨w.heap.size, 2, none⟩ v2) :=
  ((h.setCell (p := ⟨w.heap.size, 0, none⟩) (Nat.le_refl _) _).setCell (p := ⟨w.heap.size, 1, none⟩) (Nat.le_refl _) _).setCell (p := ⟨w.heap.size, 2, none⟩) (Nat.le_refl _) _

set_option maxRecDepth 100000 in
set_option maxHeartbeats 4000000 in
theorem rtext_any (s : ByteArray) (w : World) (hs : s.size ≤ 1000000) (h0 : 0 < s.size) (hq : s[0] = 34) : Calls Tryd.prog 63 #[.string s] w (TokR (tokL s.data.toList) w) := by
  have hD0 := drop_cons s 0 h0
  rw [List.drop_zero, show 0 + 1 = 1 from rfl, hq] at hD0
  have HT : Hid (∀ t n, litL (s.data.toList.drop 1) = some (t, n) → tokL s.data.toList = ⟨4, t, n + 1, 0⟩) := Lib.hid (fun t n h => by rw [hD0, tokL, if_pos (by rfl : ((34 : UInt8) == 34) = true), h])
  have HF : Hid (litL (s.data.toList.drop 1) = none → (tokL s.data.toList).err = 3 ∧ (3 : Int) ≠ 0) := Lib.hid (fun h => ⟨by rw [hD0, tokL, if_pos (by rfl : ((34 : UInt8) == 34) = true), h], by decide⟩)
  clear hD0 hq
  obtain ⟨B, hB⟩ : ∃ B, B = w.heap.size + 1 := ⟨_, rfl⟩
  have HBB := Lib.hid hB
  have hB2 : B ≤ (w.alloc (.cells #[.int .i64 0, .string ⟨#[]⟩, .int .i64 0] 36)).heap.size := by simp; omega
  have hcn : Hid (Mine 5 1 B (.slice (some ⟨(w.alloc (.cells #[.int .i64 0, .string ⟨#[]⟩, .int .i64 0] 36)).heap.size, 0, none⟩) 0 0) 0 [] ((w.alloc (.cells #[.int .i64 0, .string ⟨#[]⟩, .int .i64 0] 36)).alloc (.cells #[] 5))) := Mine.new _ _ _ _ _ _ _ hB2 rfl rfl (by decide)
  rw [World.size_alloc] at hcn
  have hb0 : Below B (w.alloc (.cells #[.int .i64 0, .string ⟨#[]⟩, .int .i64 0] 36)) ((w.alloc (.cells #[.int .i64 0, .string ⟨#[]⟩, .int .i64 0] 36)).alloc (.cells #[] 5)) := (Below.refl _ _).alloc hB2 _
  have HW : Hid (Below w.heap.size w (w.alloc (.cells #[.int .i64 0, .string ⟨#[]⟩, .int .i64 0] 36))) := Lib.hid ((Below.refl _ _).alloc (Nat.le_refl _) _)
  clear hB hB2
  go_enter Tryd.func63, Tryd.ntmps63
  go_wp2_with fail
  go_loopw [5, 6] (fun o i wr => ∃ (k : Nat) (acc : List UInt8), k ≤ s.size ∧ 1 ≤ k ∧ i = .int .i64 k ∧ Hid (Mine 5 1 B o acc.length (Lib.byteCells acc) wr) ∧ Hid (Below B (w.alloc (.cells #[.int .i64 0, .string ⟨#[]⟩, .int .i64 0] 36)) wr) ∧ Hid (acc.length ≤ k ∧ litL (s.data.toList.drop 1) = joinL acc (k - 1) (litL (s.data.toList.drop k)))) (fun _ i _ => s.size - (intOf i).toNat)
  case atStart => exact ⟨1, [], by omega, by omega, rfl, hcn, Lib.hid hb0, Lib.hid ⟨by simp, (joinL_nil _).symm⟩⟩
  case round =>
    clear hcn hb0
    obtain ⟨k, acc, hk, hk1, rfl, HO, hbel, HA⟩ := hrel
    obtain ⟨f0, f1, f2, z0, z1, z2, hlw⟩ := cells_of_one (by rw [← HBB.out]; exact hbel.out)
    have HBL : Hid (Below w.heap.size w wr) := Lib.hid (HW.out.trans (hbel.out.mono (by rw [HBB.out]; omega)))
    by_cases hlt : k < s.size
    case neg =>
      have HE := Lib.hid (HF.out (by rw [HA.out.2, List.drop_eq_nil_of_le (by rw [← Lib.size_eq]; omega)]; rfl))
      go_wp2_with fail
      refine bodyPost_ret (v := .tuple #[.agg #[.int .i64 0, .string ⟨#[]⟩, .int .i64 0], .int .i64 0, .int .i64 3]) (by simp [results, Tryd.results63, go_sem, f0, f1, f2]) rfl ?_
      exact TokR.bad HE (below_set3 HBL.out _ _ _)
    have HD := Lib.hid (drop_cons s k hlt)
    have h255 : (s[k]).toNat ≤ 255 := by have := (s[k]).toNat_lt; omega
    generalize hcs : s[k] = c at *
    by_cases h1 : c = 34
    case pos =>
      have n34 : ((c.toNat : Int) == 34) = true := by rw [h1]; rfl
      have m34 : ((c.toNat : Int) != 34) = false := by rw [bne, n34]; rfl
      have HE := Lib.hid (HT.out acc (k - 1 + 1) (by rw [HA.out.2, HD.out, h1]; simp [litL_quote, joinL]))
      have hcv := conv_own B _ acc wr HO
      obtain ⟨tx, htx⟩ : ∃ tx : ByteArray, (⟨acc.toArray⟩ : ByteArray) = tx := ⟨_, rfl⟩
      rw [htx] at hcv
      have HTX := Lib.hid htx
      have hka : (k : Int) + 1 = ((k - 1 + 1 + 1 : Nat) : Int) := by omega
      have HKA := Lib.hid hka
      clear h1 htx hka
      go_wp2_with fail
      refine bodyPost_ret (v := .tuple #[.agg #[.int .i64 4, .string tx, .int .i64 0], .int .i64 (k + 1), .int .i64 0]) (by simp [results, Tryd.results63, go_sem, f0, f1, f2]) rfl ?_
      exact TokR.ok HE HTX.out.symm HKA.out (below_set3 HBL.out _ _ _)
    have n34 : ((c.toNat : Int) == 34) = false := by rw [beq_eq_false_iff_ne]; intro e; exact h1 (UInt8.toNat_inj.1 (by have : ((34 : UInt8).toNat) = 34 := rfl; omega))
    have m34 : ((c.toNat : Int) != 34) = true := by rw [bne, n34]; rfl
    have HL := Lib.hid (chrN_le (s.data.toList.drop k))
    have H1 := Lib.hid h1
    clear h1
    obtain ⟨rs, hrs⟩ : ∃ rs, s.extract k s.size = rs := ⟨_, rfl⟩
    have HRS := Lib.hid hrs
    have HRL : Hid (rs.data.toList = s.data.toList.drop k) := Lib.hid (by rw [← hrs]; exact Lib.extract_to_end s k)
    clear hrs
    go_wp2_with fail
    rw [HRS.out]
    refine (rchar_any rs wr).mono ?_
    rintro e w2 ⟨⟨b, rfl, hb⟩, hbl⟩
    rw [HRL.out] at hb ⊢
    obtain ⟨n, hn⟩ : ∃ n, chrN (s.data.toList.drop k) = n := ⟨_, rfl⟩
    rw [hn] at hb ⊢
    have HN := Lib.hid hn
    have HL2 : Hid (k + n ≤ s.size) := Lib.hid (by have := HL.out; rw [hn, List.length_drop, ← Lib.size_eq] at this; omega)
    have HBL2 : Hid (Below w.heap.size w w2) := Lib.hid (HBL.out.trans (hbl.mono HBL.out.size))
    have HB2 : Hid (Below B (w.alloc (.cells #[.int .i64 0, .string ⟨#[]⟩, .int .i64 0] 36)) w2) := Lib.hid (hbel.out.trans (hbl.mono HO.out.2))
    have HO2 := Mine.below HO hbl
    obtain ⟨g0, g1, g2, y0, y1, y2, -⟩ := cells_of_one (by rw [← HBB.out]; exact HB2.out)
    clear f0 f1 f2 z0 z1 z2 hlw hbl hn
    by_cases h2 : n = 0
    case pos =>
      subst h2
      have HE := Lib.hid (HF.out (by rw [HA.out.2, HD.out, litL_bad c _ H1.out (by rw [← HD.out]; exact HN.out)]; rfl))
      clear hb
      go_wp2_with fail
      refine bodyPost_ret (v := .tuple #[.agg #[.int .i64 0, .string ⟨#[]⟩, .int .i64 0], .int .i64 0, .int .i64 3]) (by simp [results, Tryd.results63, go_sem, g0, g1, g2]) rfl ?_
      exact TokR.bad HE (below_set3 HBL2.out _ _ _)
    have hb3 := hb h2
    obtain ⟨cc, hcc⟩ : ∃ cc, chrB (s.data.toList.drop k) = cc := ⟨_, rfl⟩
    rw [hcc] at hb3
    subst hb3
    have HE : Hid (litL (s.data.toList.drop 1) = joinL (acc ++ [cc]) (k + n - 1) (litL (s.data.toList.drop (k + n)))) := Lib.hid (by
      rw [HA.out.2, HD.out, litL_char c _ H1.out (by rw [← HD.out, HN.out]; exact h2), ← HD.out, HN.out, hcc, joinL_join, List.drop_drop]
      congr 1; omega)
    have n0 : ((n : Int) == 0) = false := by rw [beq_eq_false_iff_ne]; omega
    have HN0 : Hid (1 ≤ n) := Lib.hid (by omega)
    clear hb hcc h2
    have hac := HA.out.1
    have q1 : wrap64 ((k : Int) + n) = k + n := by have := HL2.out; unfold wrap64; omega
    go_wp2_with (at_builtin; refine app_bytes _ rfl _ _ (by rfl) B _ _ _ (by rfl) HO2 1 [.int .u8 cc.toNat] _ (by rfl) (by rfl) (by rfl) (by simp [Value.oneCell']) (by decide) (by omega) ?_; intro g cap w3 HO3 hb4)
    go_roundw
    case rel => exact ⟨k + n, acc ++ [cc], HL2.out, Nat.le_trans hk1 (Nat.le_add_right _ _), by go_num, Lib.hid (by have := HO3.out; simpa [Lib.byteCells] using this), Lib.hid (HB2.out.trans hb4), Lib.hid ⟨by have := HN0.out; simp; omega, HE.out⟩⟩
    case measure =>
      rw [q1]
      exact step_meas s.size k n HL2.out HN0.out
end Go.Proofs.YtmlfoffahfbalaaDoor
