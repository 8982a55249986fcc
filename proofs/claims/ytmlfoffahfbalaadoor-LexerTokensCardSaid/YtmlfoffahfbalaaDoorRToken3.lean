/- Contract of the reference's token: symbols; the whole. -/
import Derived.Test.YtmlfoffahfbalaaDoorRToken2
import Derived.Test.YtmlfoffahfbalaaDoorPlainSeg
import Derived.BigQuiet
namespace Go.Proofs.YtmlfoffahfbalaaDoor
open Go Go.RowKit

/-- Symbols, and its cells. -/
theorem symbols_abs (w0 : World) (n : Nat) (hn : w0.heap.size = n) : Calls Tryd.prog 67 #[] w0 fun e w1 => e = .returned (.slice (some ⟨n, 0, none⟩) 25 25) ∧
    (∀ k x, symList[k]? = some x → w1.cell? ⟨n, k, none⟩ = some (.string x)) ∧ Below n w0 w1 := by
  subst hn
  refine (symbols_any w0).mono ?_
  rintro e w1 ⟨rfl, rfl⟩
  refine ⟨rfl, fun k x hx => ?_, (Below.refl _ _).alloc (Nat.le_refl _) _⟩
  rw [World.cell?_alloc_at _ _ _ _ rfl]
  simp [hx]
theorem sym_small : ∀ x ∈ symList, x.size ≤ 3 := by decide
theorem sym_some : ∀ x ∈ symList, x.data.toList ≠ [] := by decide
/-- a string begins with another. -/
theorem pfx_iff (x s : ByteArray) : x.data.toList.isPrefixOf s.data.toList = true ↔ x.size ≤ s.size ∧ s.extract 0 x.size = x := by
  rw [List.isPrefixOf_iff_prefix]
  have hd : (s.extract 0 x.size).data.toList = s.data.toList.take x.size := by rw [Lib.extract_data]; simp
  constructor
  · intro h
    refine ⟨by rw [Lib.size_eq, Lib.size_eq s]; exact h.length_le, ba_ext ?_⟩
    rw [hd, Lib.size_eq]
    exact (List.prefix_iff_eq_take.1 h).symm
  · rintro ⟨_, h⟩
    have h5 : (s.extract 0 x.size).data.toList = x.data.toList := by rw [h]
    rw [hd] at h5
    rw [← h5]
    exact List.take_prefix _ _

set_option maxRecDepth 100000 in
set_option maxHeartbeats 4000000 in
theorem rtoken_other (s : ByteArray) (w : World) (hs : s.size ≤ 1000000) (h0 : 0 < s.size) (h1 : smallZ (s[0].toNat : Int) = false) (h2 : capitalZ (s[0].toNat : Int) = false) (h3 : digitZ (s[0].toNat : Int) = false) (hc : ¬ s[0] = 34) : Calls Tryd.prog 35 #[.string s] w (TokR (tokL s.data.toList) w) := by
  have HT := Lib.hid (tok_other s 0 h0 h1 h2 h3 hc)
  rw [tok_zero, List.drop_zero] at HT
  have h34 : (((s[0]).toNat : Int) == 34) = false := by rw [beq_eq_false_iff_ne]; intro e; exact hc (UInt8.toNat_inj.1 (by have : ((34 : UInt8).toNat) = 34 := rfl; omega))
  clear hc
  have HSA := Lib.hid (symbols_abs (w.alloc (.cells #[.int .i64 0, .string ⟨#[]⟩, .int .i64 0] 36)) (w.heap.size + 1) (by simp))
  go_enter Tryd.func35, Tryd.ntmps35
  go_wp2_with (first | (go_at_call 64; refine (rdigit_any _ _).mono ?_; rintro e w' ⟨rfl, rfl⟩) | (go_at_call 47; refine (rsmall_any _ _).mono ?_; rintro e w' ⟨rfl, rfl⟩) | (go_at_call 52; refine (rcapital_any _ _).mono ?_; rintro e w' ⟨rfl, rfl⟩))
  refine (HSA.out).mono ?_
  rintro e w1 ⟨rfl, hcells, hb⟩
  have HB1 := Lib.hid hb
  have HSZ : Hid (w.heap.size + 1 < w1.heap.size) := Lib.hid (by
    have hc := hcells 0 ⟨#[61, 61, 61]⟩ rfl
    rcases Nat.lt_or_ge (w.heap.size + 1) w1.heap.size with h | h
    · exact h
    · unfold World.cell? at hc; rw [Array.getElem?_eq_none h] at hc; cases hc)
  have HCE := Lib.hid hcells
  clear hb hcells
  go_wp2_with fail
  go_loopw [8] (fun i wr => ∃ k : Nat, k ≤ 25 ∧ i = .int .i64 k ∧ Hid (noneOf k s.data.toList) ∧ Hid (Below w1.heap.size w1 wr)) (fun i _ => 25 - (intOf i).toNat)
  case atStart => exact ⟨0, by omega, rfl, Lib.hid (fun x hx => by simp at hx), Lib.hid (Below.refl _ _)⟩
  case round =>
    obtain ⟨k, hk, rfl, HA, HBR⟩ := hrel
    have HBQ : Hid (Below (w.heap.size + 1) (w.alloc (.cells #[.int .i64 0, .string ⟨#[]⟩, .int .i64 0] 36)) wr) := Lib.hid (HB1.out.trans (HBR.out.mono (by have := HSZ.out; omega)))
    obtain ⟨f0, f1, f2, z0, z1, z2, hlw⟩ := cells_of_one HBQ.out
    have HBW : Hid (Below w.heap.size w wr) := Lib.hid ((below_one w _).trans (HBQ.out.mono (Nat.le_succ _)))
    by_cases hlt : k < 25
    case neg =>
      obtain rfl : k = 25 := by omega
      have HE : Hid ((tokL s.data.toList).err = 3 ∧ (3 : Int) ≠ 0) := Lib.hid ⟨by
        rw [HT.out, if_pos]
        unfold symL
        rw [List.find?_eq_none.2]
        intro x hx
        have : x ∈ symList.take 25 := by rw [List.take_of_length_le (by decide)]; exact hx
        rw [HA.out x this]; exact Bool.false_ne_true, by decide⟩
      go_wp2_with fail
      refine bodyPost_ret (v := .tuple #[.agg #[.int .i64 0, .string ⟨#[]⟩, .int .i64 0], .int .i64 0, .int .i64 3]) (by simp [results, Tryd.results35, go_sem, f0, f1, f2]) rfl ?_
      exact TokR.bad HE (below_set3 HBW.out _ _ _)
    have hlt2 : k < symList.length := hlt
    obtain ⟨x, hx⟩ : ∃ x, symList[k]? = some x := ⟨symList[k], List.getElem?_eq_getElem hlt2⟩
    have hxk : symList[k] = x := by rw [List.getElem?_eq_getElem hlt2] at hx; exact Option.some.inj hx
    have hcell := (HBR.out.cell (p := ⟨w.heap.size + 1, k, none⟩) HSZ.out).trans (HCE.out k x hx)
    have hmem : x ∈ symList := by rw [← hxk]; exact List.getElem_mem _
    have hx3 := sym_small x hmem
    have hlk : (k : Int) < 25 := by omega
    have HX0 := Lib.hid (sym_some x hmem)
    have HPI := Lib.hid (pfx_iff x s)
    have HN : Hid (x.data.toList.isPrefixOf s.data.toList = false → noneOf (k + 1) s.data.toList) := Lib.hid (fun h => noneOf_succ HA.out hlt2 (by rw [hxk]; exact h))
    have HS : Hid (x.data.toList.isPrefixOf s.data.toList = true → symL s.data.toList = x.data.toList) := Lib.hid (fun h => by rw [← hxk]; exact sym_hit HA.out hlt2 (by rw [hxk]; exact h))
    clear hx hxk hmem
    by_cases h4 : x.size ≤ s.size
    case neg =>
      have h5 : decide (x.size ≤ s.size) = false := decide_eq_false (by omega)
      have h5b : decide ((x.size : Int) ≤ (s.size : Int)) = false := decide_eq_false (by omega)
      have HNN := Lib.hid (HN.out (by cases h : x.data.toList.isPrefixOf s.data.toList with | false => rfl | true => exact absurd (HPI.out.1 h).1 h4))
      clear h4
      go_wp2_with fail
      go_quiet (fail)
      go_wp2_with fail
      go_roundw
      case rel => exact ⟨k + 1, by omega, by go_num, HNN, Lib.hid (below_drewM HBR.out _)⟩
      case measure => simp [intOf]; omega
    have h5 : (s.size : Int) ≥ x.size := by omega
    have h6 : (x.size : Int) ≤ s.size := by omega
    by_cases h7 : s.extract 0 x.size = x
    · have HE : Hid (tokL s.data.toList = ⟨6, x.data.toList, x.data.toList.length, 0⟩) := Lib.hid (by
        rw [HT.out, HS.out (HPI.out.2 ⟨h4, h7⟩), if_neg HX0.out])
      go_wp2_with fail
      go_quiet (fail)
      go_wp2_with fail
      go_region
      all_goals
        go_wp2_with fail
        refine bodyPost_ret (v := .tuple #[.agg #[.int .i64 6, .string x, .int .i64 0], .int .i64 x.size, .int .i64 0]) (by simp [results, Tryd.results35, go_sem, f0, f1, f2]) rfl ?_
        exact TokR.ok HE (by cases x; simp) (by rw [Lib.size_eq]) (below_set3 (below_drewM HBW.out _) _ _ _)
    · have HNN := Lib.hid (HN.out (by cases h : x.data.toList.isPrefixOf s.data.toList with | false => rfl | true => exact absurd (HPI.out.1 h).2 h7))
      have h8 : ¬ (s.extract 0 x.size).toList = x.toList := fun h => h7 (ba_ext (by rw [← ByteArray.toList_eq, ← ByteArray.toList_eq]; exact h))
      have h9 : ((s.extract 0 x.size).toList == x.toList) = false := by rw [beq_eq_false_iff_ne]; exact h8
      go_wp2_with fail
      go_quiet (fail)
      go_wp2_with fail
      go_roundw
      case rel => exact ⟨k + 1, by omega, by go_num, HNN, Lib.hid (below_drewM HBR.out _)⟩
      case measure => simp [intOf]; omega

theorem rtoken_any (s : ByteArray) (w : World) (hs : s.size ≤ 1000000) (h0 : 0 < s.size) : Calls Tryd.prog 35 #[.string s] w (TokR (tokL s.data.toList) w) := by
  cases h1 : smallZ (s[0].toNat : Int)
  · cases h2 : capitalZ (s[0].toNat : Int)
    · cases h3 : digitZ (s[0].toNat : Int)
      · by_cases hc : s[0] = 34
        · exact rtoken_quote s w hs h0 hc
        · exact rtoken_other s w hs h0 h1 h2 h3 hc
      · exact rtoken_digit s w hs h0 h3
    · exact rtoken_word2 s w hs h0 h1 (.inr h2)
  · exact rtoken_word1 s w hs h0 h1 (.inl rfl)
end Go.Proofs.YtmlfoffahfbalaaDoor
