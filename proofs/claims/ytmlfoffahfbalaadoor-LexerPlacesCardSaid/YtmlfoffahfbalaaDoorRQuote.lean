/- Contract of the reference's Quote. -/
import Derived.Test.YtmlfoffahfbalaaDoorOwn
import Derived.Test.YtmlfoffahfbalaaDoorLib
import Derived.Test.YtmlfoffahfbalaaDoorPlainQuote
import Derived.Deep.RegionLaw
namespace Go.Proofs.YtmlfoffahfbalaaDoor
open Go Go.RowKit

/-- an append of new bytes to a slice of the call's own, as a step of a region that draws its order. -/
theorem step_bytes {ops : Array Oper} {o : Oper} {a : Act} {K : Act → World → Prop} {Q : Exit → Act → World → Prop} {E : Prop} (w w0 : World) (hgd : o.guard = none) (s x : Operand)
    (ho : o.op = .call { callee := .builtin .append, args := #[s, x], argTypes := #[37, 37] }) (B : Nat) (v : Value) (n : Nat) (xs : List Value) (hs : a.eval s = v) (hown : Hid (Mine 5 1 B v n xs w))
    (m : Nat) (news : List Value) (cs : Array Value) (hcs : cs = news.toArray) (hw0 : w0 = w.alloc (.cells cs 5)) (hx : a.eval x = .slice (some ⟨w.heap.size, 0, none⟩) m m) (hl : news.length = m * 1) (h1 : ∀ u ∈ news, u.oneCell' = true) (hm : 0 < m) (hb : n + m ≤ 4000000000)
    (h : ∀ g cap w', Hid (Mine 5 1 B (.slice (some ⟨g, 0, none⟩) (n + m) cap) (n + m) (xs ++ news) w') → Below B w w' → K (a.put o.dst (.slice (some ⟨g, 0, none⟩) (n + m) cap)) w') :
    if Region.wanted o (yielded ops a.tmps) = true then Oper.wp Tryd.prog o a w0 K Q else E := by
  have hw : Region.wanted o (yielded ops a.tmps) = true := by simp [Region.wanted, hgd]
  rw [if_pos hw]
  subst hcs
  subst hw0
  obtain ⟨i0, hi, hz0, hz1, hz2⟩ := info_parts info_bytes
  obtain ⟨ho1, hB⟩ := hown.out
  obtain ⟨v', w', hrun, hown', hgrow, _⟩ := run_append_own (P := Tryd.prog) (w.alloc (.cells news.toArray 5)) B 37 o.type 5 i0 (.int .u8 0) 1 1 Tryd.underlying37 hi hz0 hz1 hz2 rfl (by decide) v n xs (ho1.alloc _) ⟨w.heap.size, 0, none⟩ m m news hl (news_at w news _) h1 (by unfold maxLen; omega) (by omega) (by simp; omega)
  have hbel : Below B w w' := ((Below.refl B w).alloc hB _).grown hgrow (by simp; omega) (fun k hk => (ho1.lt k hk).1)
  have hO : Mine 5 1 B v' (n + m) (xs ++ news) w' := ⟨hown', by have := hbel.size; omega⟩
  obtain ⟨g, cap, rfl⟩ := hO.shape (by omega)
  unfold Oper.wp
  simp [execOp, ho, resolve, invoke, builtin, hs, hx, hrun, Result.andThen]
  exact h g cap w' (Lib.hid hO) hbel

set_option maxRecDepth 100000 in
set_option maxHeartbeats 4000000 in
theorem rQuote_any (s : ByteArray) (w : World) (hs : s.size ≤ 1000000) :
    Calls Tryd.prog 26 #[.string s] w fun e w' => e = .returned (.string ⟨(quoteL s.data.toList).toArray⟩) ∧ Below w.heap.size w w' := by
  obtain ⟨B, hB⟩ : ∃ B, B = w.heap.size := ⟨_, rfl⟩
  have HBB := Lib.hid hB
  have hB2 : B ≤ w.heap.size := by omega
  have hcn : Hid (Mine 5 1 B (.slice (some ⟨w.heap.size, 0, none⟩) 1 1) 1 [.int .u8 34] (w.alloc (.cells #[.int .u8 34] 5))) := Mine.new _ _ _ _ _ _ _ hB2 rfl rfl (by decide)
  have hb0 : Below B w (w.alloc (.cells #[.int .u8 34] 5)) := (Below.refl _ _).alloc hB2 _
  clear hB hB2
  go_enter Tryd.func26, Tryd.ntmps26
  go_wp2_with fail
  go_loopw [4, 5] (fun o i wr => ∃ (k : Nat), k ≤ s.size ∧ i = .int .i64 k ∧ Hid (Mine 5 1 B o (1 + ((s.data.toList.take k).flatMap qB).length) (Lib.byteCells (34 :: (s.data.toList.take k).flatMap qB)) wr) ∧ Hid (Below B w wr)) (fun _ i _ => s.size - (intOf i).toNat)
  case atStart => exact ⟨0, by omega, rfl, hcn, Lib.hid hb0⟩
  case round =>
    clear hcn hb0
    obtain ⟨k, hk, rfl, HO, hbel⟩ := hrel
    by_cases hlt : k < s.size
    · have HT := Lib.hid (flat_take s k hlt)
      have HF := Lib.hid (flat_len (s.data.toList.take k))
      have h255 : (s[k]).toNat ≤ 255 := by have := (s[k]).toNat_lt; omega
      generalize hcs : s[k] = c at *
      have hn1 : 1 + ((s.data.toList.take k).flatMap qB).length + 4 ≤ 4000000000 := by have := HF.out; rw [List.length_take, ← Lib.size_eq] at this; omega
      by_cases h1 : c = 34
      · subst h1
        have HE : Hid (qB 34 = [92, 34]) := Lib.hid rfl
        go_wp2_with (at_builtin; refine app_bytes _ rfl _ _ (by rfl) B _ _ _ (by rfl) HO 2 [.int .u8 92, .int .u8 34] _ (by rfl) (by rfl) (by rfl) (by simp [Value.oneCell']) (by decide) (by omega) ?_; intro g cap w2 HO2 hb2)
        go_roundw
        case rel => exact ⟨k + 1, by omega, by go_num, Lib.hid (by have := HO2.out; rw [HT.out, HE.out]; simpa [Lib.byteCells, Nat.add_assoc] using this), Lib.hid (hbel.out.trans hb2)⟩
        case measure => simp [intOf]; omega
      have e1 : ((c.toNat : Int) == 34) = false := by rw [beq_eq_false_iff_ne]; intro e; exact h1 (UInt8.toNat_inj.1 (by have : ((34 : UInt8).toNat) = 34 := rfl; omega))
      by_cases h2 : c = 92
      · subst h2
        have HE : Hid (qB 92 = [92, 92]) := Lib.hid rfl
        go_wp2_with (at_builtin; refine app_bytes _ rfl _ _ (by rfl) B _ _ _ (by rfl) HO 2 [.int .u8 92, .int .u8 92] _ (by rfl) (by rfl) (by rfl) (by simp [Value.oneCell']) (by decide) (by omega) ?_; intro g cap w2 HO2 hb2)
        go_roundw
        case rel => exact ⟨k + 1, by omega, by go_num, Lib.hid (by have := HO2.out; rw [HT.out, HE.out]; simpa [Lib.byteCells, Nat.add_assoc] using this), Lib.hid (hbel.out.trans hb2)⟩
        case measure => simp [intOf]; omega
      have e2 : ((c.toNat : Int) == 92) = false := by rw [beq_eq_false_iff_ne]; intro e; exact h2 (UInt8.toNat_inj.1 (by have : ((92 : UInt8).toNat) = 92 := rfl; omega))
      by_cases h3 : c = 10
      · subst h3
        have HE : Hid (qB 10 = [92, 110]) := Lib.hid rfl
        go_wp2_with (at_builtin; refine app_bytes _ rfl _ _ (by rfl) B _ _ _ (by rfl) HO 2 [.int .u8 92, .int .u8 110] _ (by rfl) (by rfl) (by rfl) (by simp [Value.oneCell']) (by decide) (by omega) ?_; intro g cap w2 HO2 hb2)
        go_roundw
        case rel => exact ⟨k + 1, by omega, by go_num, Lib.hid (by have := HO2.out; rw [HT.out, HE.out]; simpa [Lib.byteCells, Nat.add_assoc] using this), Lib.hid (hbel.out.trans hb2)⟩
        case measure => simp [intOf]; omega
      have e3 : ((c.toNat : Int) == 10) = false := by rw [beq_eq_false_iff_ne]; intro e; exact h3 (UInt8.toNat_inj.1 (by have : ((10 : UInt8).toNat) = 10 := rfl; omega))
      have H12 := Lib.hid (And.intro h1 (And.intro h2 h3))
      clear h1 h2 h3
      by_cases h4 : 32 ≤ c.toNat ∧ c.toNat ≤ 126
      · have HE : Hid (qB c = [c]) := Lib.hid (by obtain ⟨g1, g2, g3⟩ := H12.out; unfold qB; rw [if_neg (fun h => h.elim g1 g2), if_neg g3, if_pos h4])
        obtain ⟨h5, h6⟩ := h4
        have h7 : 32 ≤ (c.toNat : Int) := by omega
        have h8 : (c.toNat : Int) ≤ 126 := by omega
        go_wp2_with (at_builtin; refine app_bytes _ rfl _ _ (by rfl) B _ _ _ (by rfl) HO 1 [.int .u8 c.toNat] _ (by rfl) (by rfl) (by rfl) (by simp [Value.oneCell']) (by decide) (by omega) ?_; intro g cap w2 HO2 hb2)
        go_roundw
        case rel => exact ⟨k + 1, by omega, by go_num, Lib.hid (by have := HO2.out; rw [HT.out, HE.out]; simpa [Lib.byteCells, Nat.add_assoc] using this), Lib.hid (hbel.out.trans hb2)⟩
        case measure => simp [intOf]; omega
      · have HE : Hid (qB c = [92, 120, hexC (c.toNat / 16), hexC (c.toNat % 16)]) := Lib.hid (by obtain ⟨g1, g2, g3⟩ := H12.out; unfold qB; rw [if_neg (fun h => h.elim g1 g2), if_neg g3, if_neg h4])
        have h9 : ((c.toNat : Int) < 32) ∨ (32 ≤ (c.toNat : Int) ∧ 126 < (c.toNat : Int)) := by omega
        clear h4
        have d1 : (c.toNat : Int).tdiv 16 = ((c.toNat / 16 : Nat) : Int) := by rw [Int.tdiv_eq_ediv_of_nonneg (by omega)]; omega
        have d2 : (c.toNat : Int).tmod 16 = ((c.toNat % 16 : Nat) : Int) := by rw [Int.tmod_eq_emod_of_nonneg (by omega)]; omega
        rcases h9 with h9 | ⟨h9, h10⟩
        all_goals
          obtain ⟨hi, hhi⟩ : ∃ hi, c.toNat / 16 = hi := ⟨_, rfl⟩
          obtain ⟨lo, hlo⟩ : ∃ lo, c.toNat % 16 = lo := ⟨_, rfl⟩
          have i1 : hi < 16 := by omega
          have i2 : lo < 16 := by omega
          have q1 : IntKind.u8.wrap ((c.toNat : Int) / 16) = (hi : Int) := by
            rw [show (c.toNat : Int) / 16 = (hi : Int) by omega]
            rw [IntKind.wrap_u8]; omega
          have q2 : (c.toNat : Int) % 16 = (lo : Int) := by omega
          have q3 : (c.toNat : Int).tmod 16 = (lo : Int) := by rw [d2, hlo]
          have j1 : (hi : Int) < 16 := by omega
          have j2 : (lo : Int) < 16 := by omega
          have Y1 := hex_at hi (by show _ < 16; omega)
          have Y2 := hex_at lo (by show _ < 16; omega)
          rw [hhi, hlo] at HE
          clear hhi hlo d1 d2
          have HOd : Hid (Mine 5 1 B _ (1 + ((s.data.toList.take k).flatMap qB).length) (Lib.byteCells (34 :: (s.data.toList.take k).flatMap qB)) wr.drew) := Lib.hid HO.out
          go_wp2_with fail
          go_region_law (go_loud (refine step_bytes _ _ rfl _ _ (by rfl) B _ _ _ (by rfl) HOd 4 [.int .u8 92, .int .u8 120, _, _] _ (by rfl) (by rfl) (by rfl) (by rfl) (by simp [Value.oneCell']) (by decide) (by omega) ?_); intro g cap w2 HO2 hb2)
          all_goals
            go_wp2
            go_roundw
            case rel => exact ⟨k + 1, by omega, by go_num, Lib.hid (by have := HO2.out; rw [HT.out, HE.out]; simpa [Lib.byteCells, Nat.add_assoc] using this), Lib.hid (hbel.out.drew.trans hb2)⟩
            case measure => simp [intOf]; omega
    · have hkk : k = s.size := by omega
      subst hkk
      rw [List.take_of_length_le (by rw [← Lib.size_eq]; exact Nat.le_refl _)] at HO
      have HF := Lib.hid (flat_len s.data.toList)
      have hn1 : 1 + (s.data.toList.flatMap qB).length + 1 ≤ 4000000000 := by have := HF.out; rw [← Lib.size_eq] at this; omega
      have HC : Hid (∀ (g cap : Nat) (w2 : World) (l : List UInt8), Hid (Mine 5 1 B (.slice (some ⟨g, 0, none⟩) l.length cap) l.length (Lib.byteCells l) w2) → (convert 37 9 (.slice (some ⟨g, 0, none⟩) l.length cap)).run Tryd.prog w2 = .ok (.string ⟨l.toArray⟩) w2) := Lib.hid (fun g cap w2 l h => conv_own B _ l w2 h)
      obtain ⟨q, hq⟩ : ∃ q, s.data.toList.flatMap qB = q := ⟨_, rfl⟩
      have HQ : Hid (quoteL s.data.toList = 34 :: q ++ [34]) := Lib.hid (by rw [← hq]; rfl)
      rw [hq] at HO hn1
      clear hq HF
      obtain ⟨n1, hq1⟩ : ∃ n1, 1 + q.length = n1 := ⟨_, rfl⟩
      have HN := Lib.hid hq1
      rw [hq1] at HO hn1
      clear hq1
      go_wp2_with (at_builtin; refine app_bytes _ rfl _ _ (by rfl) B _ _ _ (by rfl) HO 1 [.int .u8 34] _ (by rfl) (by rfl) (by rfl) (by simp [Value.oneCell']) (by decide) (by omega) ?_; intro g cap w2 HO2 hb2; have HV := HC.out g cap w2 (34 :: q ++ [34]) (by have := HO2.out; have e : (34 :: q ++ [34] : List UInt8).length = n1 + 1 := (by rw [← HN.out]; simp; omega); rw [e]; exact Lib.hid (by simpa [Lib.byteCells] using this)); rw [show (34 :: q ++ [34] : List UInt8).length = n1 + 1 from (by rw [← HN.out]; simp; omega)] at HV)
      go_ret
      exact ⟨ret_string (by rw [HQ.out]; rfl), by rw [← HBB.out]; exact hbel.out.trans hb2⟩
end Go.Proofs.YtmlfoffahfbalaaDoor
