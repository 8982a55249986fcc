/- Contracts of the reference's Segments, segment, Major and IsPath. Contracts of the reference's Line and Path. Contract of the reference's Compare. -/
import Derived.Test.YtenfkejbndifdaaGreatDoorUB
import Derived.Test.YtenfkejbndifdaaGreatDoorVD
import Derived.Test.YtenfkejbndifdaaGreatDoorUC
import Derived.Test.YtenfkejbndifdaaGreatDoorUM
import Derived.Test.YtenfkejbndifdaaGreatDoorUH
import Derived.Test.YtenfkejbndifdaaGreatDoorVB
import Derived.Test.YtenfkejbndifdaaGreatDoorVC
namespace Go.Proofs.YtenfkejbndifdaaGreatDoor
open Go Go.RowKit

theorem conv_one (c : UInt8) (w : World) : (convert 241 9 (.slice (some ⟨w.heap.size, 0, none⟩) 1 1)).run Tryz.prog (w.alloc (.cells #[.int .u8 c.toNat] 5)).drew = .ok (.string ⟨#[c]⟩) (w.alloc (.cells #[.int .u8 c.toNat] 5)).drew :=
  conv_own 0 _ [c] _ (Lib.hid (Mine.new 5 1 0 1 [.int .u8 c.toNat] _ w (Nat.zero_le _) rfl rfl (by decide)).out)
theorem Mine.set {e B g cap n : Nat} {xs : List Value} {w : World} (h : Hid (Mine e 1 B (.slice (some ⟨g, 0, none⟩) n cap) n xs w)) (j : Nat) (u : Value) : Hid (Mine e 1 B (.slice (some ⟨g, 0, none⟩) n cap) n (xs.set j u) (w.setCell ⟨g, j, none⟩ u)) := by
  obtain ⟨h1, h2⟩ := h.out
  refine Lib.hid ⟨(h1.stored j u).1, ?_⟩
  have : (w.setCell ⟨g, j, none⟩ u).heap.size = w.heap.size := by simp
  omega
def strVs (l : List (List UInt8)) : List Value := l.map fun x => .string ⟨x.toArray⟩
theorem segs_pos (l : List UInt8) : 0 < (segsL l).length := List.length_pos_iff.2 (segsL_ne l)

theorem strVs_set (sg : List (List UInt8)) (hne : sg ≠ []) (l : List UInt8) (nn : Nat) (hn : sg.length = nn + 1) (x : ByteArray) (hx : x = ⟨l.toArray⟩) : (strVs sg).set nn (.string x) = strVs (sg.dropLast ++ [l]) := by
  subst hx
  have e : sg = sg.dropLast ++ [sg.getLast hne] := (List.dropLast_concat_getLast hne).symm
  have hl : nn = (sg.dropLast.map fun x => Value.string ⟨x.toArray⟩).length := by simp; omega
  unfold strVs
  conv => lhs; rw [e]
  rw [List.map_append, List.map_append, hl, List.set_append_right _ _ (Nat.le_refl _)]
  simp
theorem strVs_B (s : ByteArray) : strVs (segsL s.data.toList) = (segB s).map Value.string := by
  unfold strVs segB; rw [List.map_map]; rfl

set_option maxRecDepth 100000 in
set_option maxHeartbeats 4000000 in
theorem Segments_any (s : ByteArray) (w : World) (hs : s.size ≤ 1000000) :
    Calls Tryz.prog 212 #[.string s] w fun e w' => ∃ v, e = .returned v ∧ Mine 9 1 w.heap.size v (segsL s.data.toList).length (strVs (segsL s.data.toList)) w' ∧ Below w.heap.size w w' := by
  obtain ⟨B, hB⟩ : ∃ B, B = w.heap.size := ⟨_, rfl⟩
  have HBB := Lib.hid hB
  have hB2 : B ≤ w.heap.size := by omega
  have hcn : Hid (Mine 9 1 B (.slice (some ⟨w.heap.size, 0, none⟩) 1 1) 1 [.string ⟨#[]⟩] (w.alloc (.cells #[.string ⟨#[]⟩] 9))) := Mine.new _ _ _ _ _ _ _ hB2 rfl rfl (by decide)
  have hb0 : Below B w (w.alloc (.cells #[.string ⟨#[]⟩] 9)) := (Below.refl _ _).alloc hB2 _
  clear hB hB2
  go_enter Tryz.func212, Tryz.ntmps212
  go_wp2_with fail
  go_loopw [3, 4] (fun o i wr => ∃ k : Nat, k ≤ s.size ∧ i = .int .i64 k ∧ Hid (Mine 9 1 B o (segsL (s.data.toList.take k)).length (strVs (segsL (s.data.toList.take k))) wr) ∧ Hid (Below B w wr)) (fun _ i _ => s.size - (intOf i).toNat)
  case atStart => exact ⟨0, by omega, rfl, hcn, Lib.hid hb0⟩
  case round =>
    clear hcn hb0
    obtain ⟨k, hk, rfl, HO, hbel⟩ := hrel
    by_cases hlt : k < s.size
    · have HT : Hid (s.data.toList.take (k + 1) = s.data.toList.take k ++ [s[k]]) := Lib.hid (by rw [List.take_succ_eq_append_getElem (by simpa using hlt)]; rfl)
      have hp := segs_pos (s.data.toList.take k)
      have hle := segsL_length (s.data.toList.take k)
      rw [List.length_take, ← Lib.size_eq] at hle
      have hne := segsL_ne (s.data.toList.take k)
      have hsl := segsL_le (s.data.toList.take k)
      have htl : (s.data.toList.take k).length ≤ s.size := by rw [List.length_take, ← Lib.size_eq]; omega
      have h255 : (s[k]).toNat ≤ 255 := by have := (s[k]).toNat_lt; omega
      generalize hcs : s[k] = c at *
      by_cases h1 : c = 47
      · subst h1
        have HE : Hid (segsL (s.data.toList.take (k + 1)) = segsL (s.data.toList.take k) ++ [[]]) := Lib.hid (by rw [HT.out, segsL_snoc_slash])
        obtain ⟨sg, hsg⟩ : ∃ sg, segsL (s.data.toList.take k) = sg := ⟨_, rfl⟩
        rw [hsg] at HO HE hp hle hne
        clear hsg HT hne hsl htl
        obtain ⟨nn, hnn⟩ : ∃ nn, sg.length = nn := ⟨_, rfl⟩
        have HN := Lib.hid hnn
        rw [hnn] at HO hp hle
        clear hnn
        go_wp2_with (at_builtin; refine app_strs _ rfl _ _ (by rfl) B _ _ _ (by rfl) HO 1 [.string ⟨#[]⟩] _ (by rfl) (by rfl) (by rfl) (by simp [Value.oneCell']) (by decide) (by omega) ?_; intro g cap w2 HO2 hb2)
        go_roundw
        case rel => exact ⟨k + 1, by omega, by go_num, Lib.hid (by have := HO2.out; rw [HE.out, List.length_append, HN.out]; simpa [strVs] using this), Lib.hid (hbel.out.trans hb2)⟩
        case measure => simp [intOf]; omega
      · have e1 : ((c.toNat : Int) == 47) = false := by rw [beq_eq_false_iff_ne]; intro e; exact h1 (UInt8.toNat_inj.1 (by have : ((47 : UInt8).toNat) = 47 := rfl; omega))
        have HE : Hid (segsL (s.data.toList.take (k + 1)) = (segsL (s.data.toList.take k)).dropLast ++ [(segsL (s.data.toList.take k)).getLast hne ++ [c]]) := Lib.hid (by rw [HT.out, segsL_snoc_other _ _ h1])
        clear h1
        clear HT
        generalize segsL (s.data.toList.take k) = sg at *
        obtain ⟨nn, hnn⟩ : ∃ nn, sg.length = nn + 1 := ⟨sg.length - 1, by omega⟩
        have HN := Lib.hid hnn
        rw [hnn] at HO hle
        obtain ⟨g, cap, rfl⟩ := HO.out.shape (by omega)
        obtain ⟨lb, hlb⟩ : ∃ lb : ByteArray, ⟨(sg.getLast hne).toArray⟩ = lb := ⟨_, rfl⟩
        have hcell : wr.cell? ⟨g, nn, none⟩ = some (.string lb) := by
          rw [HO.out.cell nn (by omega), ← hlb, strVs, List.getElem?_map]
          rw [show sg[nn]? = some (sg.getLast hne) by rw [List.getLast_eq_getElem]; rw [List.getElem?_eq_getElem (by omega)]; congr 2; omega]
          rfl
        have hfz : wr.frozen? ⟨g, nn, none⟩ = false := HO.out.1.frozenAt nn
        have hbw : Below wr.heap.size wr (wr.alloc (.cells #[.int .u8 c.toNat] 5)) := (Below.refl _ _).alloc (Nat.le_refl _) _
        have hge := HO.out.ge.2
        have hcell2 := (hbw.cell (p := ⟨g, nn, none⟩) hge).trans hcell
        have hfz2 := (hbw.frozen (p := ⟨g, nn, none⟩) hge).trans hfz
        have HO3 := Mine.set (Mine.below HO hbw) nn (.string (lb ++ ⟨#[c]⟩))
        have HB3 : Hid (Below B w ((wr.alloc (.cells #[.int .u8 c.toNat] 5)).setCell ⟨g, nn, none⟩ (.string (lb ++ ⟨#[c]⟩)))) := Lib.hid ((hbel.out.trans (hbw.mono HO.out.2)).setCell (p := ⟨g, nn, none⟩) HO.out.ge.1 _)
        clear hbw hge
        have hcv := conv_one c wr
        have hls : lb.size ≤ 1000000 := by
          have := hsl _ (List.getLast_mem hne)
          rw [← hlb, Lib.size_eq]
          show (sg.getLast hne).toArray.toList.length ≤ _
          simp
          omega
        have hno : ¬ 9223372036854775807 < lb.size + (⟨#[c]⟩ : ByteArray).size := by have : (⟨#[c]⟩ : ByteArray).size = 1 := rfl; omega
        have hno2 : ¬ 9223372036854775806 < lb.size := by omega
        have hno3 : ¬ 9223372036854775807 < lb.size + 1 := by omega
        have HL := Lib.hid hlb
        clear hlb hp
        have q1 : IntKind.i64.wrap (nn : Int) = nn := by rw [IntKind.wrap_i64]; omega
        go_wp2_with fail
        go_region
        go_wp2
        go_roundw
        case rel => exact ⟨k + 1, by omega, by go_num, Lib.hid (by
          have h1 := HO3.out
          rw [HE.out]
          have e1 : (sg.dropLast ++ [sg.getLast hne ++ [c]]).length = nn + 1 := by have := HN.out; simp; omega
          rw [e1, ← strVs_set sg hne _ nn HN.out (lb ++ ⟨#[c]⟩) (by rw [← HL.out]; apply ByteArray.ext; simp [ByteArray.data_append])]
          exact h1), Lib.hid HB3.out.drew⟩
        case measure => simp [intOf]; omega
    · have hkk : k = s.size := by omega
      subst hkk
      rw [List.take_of_length_le (by rw [← Lib.size_eq]; exact Nat.le_refl _)] at HO
      go_wp2
      go_ret
      exact ⟨_, rfl, by rw [← HBB.out]; exact HO.out, by rw [← HBB.out]; exact hbel.out⟩

set_option maxHeartbeats 400000 in
theorem rsegment_any (s : ByteArray) (w : World) (hs : s.size ≤ maxLen) :
    Calls Tryz.prog 213 #[.string s] w fun e w' => e = .returned (.bool (segOk s)) ∧ Below w.heap.size w w' := by
  have HN := Lib.hid (rIsName_any s w hs)
  unfold maxLen at hs
  have HS : Hid (segOk s = (nameS s && allZ pathZ s)) := Lib.hid rfl
  go_enter Tryz.func213, Tryz.ntmps213
  go_wp2
  go_loop [3] (fun i => ∃ k : Nat, k ≤ s.size ∧ i = .int .i64 k ∧ Hid ((s.data.toList.take k).all (fun b => pathZ b.toNat) = true)) (fun i => s.size - (intOf i).toNat)
  case atStart => exact ⟨0, Nat.zero_le _, rfl, Lib.hid rfl⟩
  case round =>
    obtain ⟨k, hk, rfl, HA⟩ := hrel
    by_cases hlt : k < s.size
    · have HZ : Hid (pathZ (s[k].toNat : Int) = (smallZ (s[k].toNat : Int) || digitZ (s[k].toNat : Int))) := Lib.hid rfl
      cases h1 : smallZ (s[k].toNat : Int)
      · cases h2 : digitZ (s[k].toNat : Int)
        · have hb : Hid (¬ pathZ (s[k].toNat : Int) = true) := Lib.hid (by rw [HZ.out, h1, h2]; exact Bool.false_ne_true)
          go_wp2_with (first | (go_at_call 225; refine (rsmall_any _ _).mono ?_; rintro e w' ⟨rfl, rfl⟩) | (go_at_call 226; refine (rdigit_any _ _).mono ?_; rintro e w' ⟨rfl, rfl⟩))
          go_ret
          exact ⟨ret_bool (by rw [HS.out, all_not _ s k hlt hb.out, Bool.and_false]), Below.refl _ _⟩
        · have hb : Hid (pathZ (s[k].toNat : Int) = true) := Lib.hid (by rw [HZ.out, h1, h2]; rfl)
          go_wp2_with (first | (go_at_call 225; refine (rsmall_any _ _).mono ?_; rintro e w' ⟨rfl, rfl⟩) | (go_at_call 226; refine (rdigit_any _ _).mono ?_; rintro e w' ⟨rfl, rfl⟩))
          go_round
          case rel => exact ⟨k + 1, by omega, by go_num, Lib.hid (all_take _ s k hlt HA.out hb.out)⟩
          case measure => simp [intOf]; omega
      · have hb : Hid (pathZ (s[k].toNat : Int) = true) := Lib.hid (by rw [HZ.out, h1]; rfl)
        go_wp2_with (first | (go_at_call 225; refine (rsmall_any _ _).mono ?_; rintro e w' ⟨rfl, rfl⟩) | (go_at_call 226; refine (rdigit_any _ _).mono ?_; rintro e w' ⟨rfl, rfl⟩))
        go_round
        case rel => exact ⟨k + 1, by omega, by go_num, Lib.hid (all_take _ s k hlt HA.out hb.out)⟩
        case measure => simp [intOf]; omega
    · have HD := Lib.hid (all_done pathZ s k (by omega) HA.out)
      go_wp2_with fail
      refine HN.out.mono ?_
      rintro e w' ⟨rfl, hb⟩
      go_wp2
      go_ret
      exact ⟨ret_bool (by rw [HS.out, HD.out, Bool.and_true]), hb⟩

theorem majZ_yes {s : ByteArray} (h : verOk s = true) : majZ s = verN s ∧ 0 ≤ verN s := by
  have h2 : majZ s = verN s := by unfold majZ; rw [if_pos h]
  refine ⟨h2, ?_⟩
  unfold verN
  rw [if_pos h]
  unfold verOk okR at h
  simp only [Bool.and_eq_true] at h
  have h3 := h.2.2.2.2
  unfold allZ at h3
  rw [List.all_eq_true, tailS_data] at h3
  exact (valL_lt _ (fun b hb => h3 b hb)).1

set_option maxRecDepth 100000 in
set_option maxHeartbeats 2000000 in
theorem rMajor_any (s : ByteArray) (w : World) :
    Calls Tryz.prog 183 #[.string s] w fun e w' => e = .returned (.tuple #[.int .i64 (majN s), .int .i64 (majE s)]) ∧ Below w.heap.size w w' := by
  have HP : Hid (pathOk s = (decide (s.size ≤ 64) && (decide (2 ≤ (segB s).length) && (verOk (lastB s) && (segB s).all segOk)))) := Lib.hid rfl
  have HN : Hid (majN s = if pathOk s then verN (lastB s) else 0) := Lib.hid rfl
  have HE : Hid (majE s = if pathOk s then 0 else 4) := Lib.hid rfl
  by_cases h2 : s.size ≤ 64
  case neg =>
    have HT : Hid (pathOk s = false) := Lib.hid (by rw [HP.out, decide_eq_false h2]; rfl)
    have h3 : 64 < (s.size : Int) := by omega
    go_enter Tryz.func183, Tryz.ntmps183
    go_wp2
    go_ret2
    exact ⟨ret_ii (by rw [HN.out, HT.out]; rfl) (by rw [HE.out, HT.out]; rfl), Below.refl _ _⟩
  have h3 : ¬ 64 < (s.size : Int) := by omega
  have hne := segB_ne s
  have hln := segB_length s
  have hsz := segB_le s
  have hlm := lastB_mem s
  have HD2 := Lib.hid (decide_eq_true h2)
  have HG := Lib.hid (Segments_any s w (by omega))
  have HB := Lib.hid (strVs_B s)
  have HBL : Hid ((segsL s.data.toList).length = (segB s).length) := Lib.hid (by unfold segB; rw [List.length_map])
  have HLB : Hid ((segB s)[(segB s).length - 1]? = some (lastB s)) := Lib.hid (by unfold lastB; rw [List.getD_eq_getElem?_getD, List.getElem?_eq_getElem (by omega)]; rfl)
  go_enter Tryz.func183, Tryz.ntmps183
  go_wp2_with fail
  refine HG.out.mono ?_
  rintro e w1 ⟨v, rfl, hv, hb⟩
  rw [HB.out, HBL.out] at hv
  obtain ⟨g, cap, rfl⟩ := hv.shape hne
  have hcells : ∀ i (h : i < (segB s).length), w1.cell? ⟨g, i, none⟩ = some (.string (segB s)[i]) := fun i h => by rw [hv.cell i (by omega), List.getElem?_map, List.getElem?_eq_getElem h]; rfl
  have hg := hv.ge
  have hbl := hb
  generalize hsgg : segB s = sg at *
  generalize lastB s = lb at *
  have H1 := Lib.hid hcells
  have H2 := Lib.hid hsz
  have HM := Lib.hid hlm
  have HSG := Lib.hid hsgg
  clear hcells hsz hlm hsgg hb hv
  go_wp2_with fail
  go_loopw [5] (fun i wr => ∃ k : Nat, k ≤ sg.length ∧ i = .int .i64 k ∧ Hid ((sg.take k).all segOk = true) ∧ Hid (Below w1.heap.size w1 wr)) (fun i _ => sg.length - (intOf i).toNat)
  case atStart => exact ⟨0, Nat.zero_le _, rfl, Lib.hid rfl, Lib.hid (Below.refl _ _)⟩
  case round =>
    obtain ⟨k, hk, rfl, HA, hbr⟩ := hrel
    by_cases hlt : k < sg.length
    · have hck : wr.cell? ⟨g, k, none⟩ = some (.string sg[k]) := (hbr.out.cell (p := ⟨g, k, none⟩) hg.2).trans (H1.out k hlt)
      have HX := Lib.hid (H2.out _ (List.getElem_mem hlt))
      have HO : Hid ((sg.take (k + 1)).all segOk = ((sg.take k).all segOk && segOk sg[k])) := Lib.hid (by rw [List.take_succ_eq_append_getElem hlt, List.all_append]; simp)
      have HF : Hid (segOk sg[k] = false → sg.all segOk = false) := Lib.hid (fun h => by rw [List.all_eq_false]; exact ⟨sg[k], List.getElem_mem hlt, by rw [h]; exact Bool.false_ne_true⟩)
      generalize sg[k] = x at *
      cases h4 : segOk x
      · have HT : Hid (pathOk s = false) := Lib.hid (by rw [HP.out, HF.out h4]; simp)
        go_wp2_with fail
        refine (rsegment_any x wr (by have := HX.out; unfold maxLen; omega)).mono ?_
        rintro e w2 ⟨rfl, hb2⟩
        rw [h4]
        go_wp2
        go_ret2
        exact ⟨ret_ii (by rw [HN.out, HT.out]; rfl) (by rw [HE.out, HT.out]; rfl), (hbl.trans (hbr.out.mono hbl.size)).trans (hb2.mono (hbl.trans (hbr.out.mono hbl.size)).size)⟩
      · have HO2 : Hid ((sg.take (k + 1)).all segOk = true) := Lib.hid (by rw [HO.out, HA.out, h4]; rfl)
        go_wp2_with fail
        refine (rsegment_any x wr (by have := HX.out; unfold maxLen; omega)).mono ?_
        rintro e w2 ⟨rfl, hb2⟩
        rw [h4]
        go_wp2
        go_roundw
        case rel => exact ⟨k + 1, by omega, by go_num, HO2, Lib.hid (hbr.out.trans (hb2.mono hbr.out.size))⟩
        case measure => simp [intOf]; omega
    · obtain rfl : k = sg.length := by omega
      have HO : Hid (sg.all segOk = true) := Lib.hid (by have := HA.out; rwa [List.take_length] at this)
      obtain ⟨nn, hnn⟩ : ∃ nn, sg.length = nn + 1 := ⟨sg.length - 1, by omega⟩
      have hck : wr.cell? ⟨g, nn, none⟩ = some (.string lb) := by
        have e : sg[nn]? = some lb := by rw [← HLB.out, hnn]; rfl
        obtain ⟨h5, h6⟩ := List.getElem?_eq_some_iff.1 e
        rw [(hbr.out.cell (p := ⟨g, nn, none⟩) hg.2).trans (H1.out nn h5), h6]
      have HX := Lib.hid (H2.out _ HM.out)
      have HQ : Hid (pathOk s = (decide (2 ≤ nn + 1) && verOk lb)) := Lib.hid (by rw [HP.out, HD2.out, HO.out, hnn]; simp)
      have HBL2 : Hid (Below w.heap.size w wr) := Lib.hid (hbl.trans (hbr.out.mono hbl.size))
      have q1 : wrap64 (nn : Int) = nn := by unfold wrap64; omega
      rw [hnn] at *
      have HMJ := Lib.hid (rmajor_any lb wr (by have := HX.out; omega))
      cases h5 : verOk lb
      · have HT : Hid (pathOk s = false) := Lib.hid (by rw [HQ.out, h5, Bool.and_false])
        have HZ := Lib.hid (majZ_no h5)
        go_wp2_with fail
        refine HMJ.out.mono ?_
        rintro e w2 ⟨rfl, rfl⟩
        rw [HZ.out]
        by_cases h6 : (nn : Int) + 1 < 2
        all_goals
          go_wp2
          go_ret2
          exact ⟨ret_ii (by rw [HN.out, HT.out]; rfl) (by rw [HE.out, HT.out]; rfl), HBL2.out⟩
      · have hz := majZ_yes h5
        have HZ := Lib.hid hz.1
        have hz2 := hz.2
        obtain ⟨vn, hvn⟩ : ∃ vn, verN lb = vn := ⟨_, rfl⟩
        rw [hvn] at hz2
        have HVN := Lib.hid hvn
        clear hz hvn
        by_cases h6 : (nn : Int) + 1 < 2
        · have HT : Hid (pathOk s = false) := Lib.hid (by rw [HQ.out, decide_eq_false (by omega)]; rfl)
          go_wp2_with fail
          refine HMJ.out.mono ?_
          rintro e w2 ⟨rfl, rfl⟩
          rw [HZ.out, HVN.out]
          go_wp2
          go_ret2
          exact ⟨ret_ii (by rw [HN.out, HT.out]; rfl) (by rw [HE.out, HT.out]; rfl), HBL2.out⟩
        · have HT : Hid (pathOk s = true) := Lib.hid (by rw [HQ.out, h5, decide_eq_true (by omega)]; rfl)
          have h7 : ¬ vn < 0 := by omega
          go_wp2_with fail
          refine HMJ.out.mono ?_
          rintro e w2 ⟨rfl, rfl⟩
          rw [HZ.out, HVN.out]
          go_wp2
          go_ret2
          exact ⟨ret_ii (by rw [HN.out, HT.out, if_pos rfl, HVN.out]) (by rw [HE.out, HT.out]; rfl), HBL2.out⟩

set_option maxHeartbeats 400000 in
theorem rIsPath_any (s : ByteArray) (w : World) :
    Calls Tryz.prog 182 #[.string s] w fun e w' => e = .returned (.bool (pathOk s)) ∧ Below w.heap.size w w' := by
  have HE : Hid (majE s = if pathOk s then 0 else 4) := Lib.hid rfl
  cases h : pathOk s
  all_goals
    rw [h] at HE
    simp only [Bool.false_eq_true, if_false, if_true] at HE
    go_enter Tryz.func182, Tryz.ntmps182
    go_wp2_with fail
    refine (rMajor_any s w).mono ?_
    rintro e w' ⟨rfl, hb⟩
    rw [HE.out]
    go_wp2
    go_ret
    exact ⟨rfl, hb⟩
end Go.Proofs.YtenfkejbndifdaaGreatDoor

namespace Go.Proofs.YtenfkejbndifdaaGreatDoor
open Go Go.RowKit

set_option maxRecDepth 100000 in
set_option maxHeartbeats 4000000 in
theorem rLine_any (s : ByteArray) (w : World) (hs : s.size ≤ 1000000) : Calls Tryz.prog 152 #[.string s] w fun e w' =>
    e = .returned (.tuple #[.string (lineV s).1, .int .i64 (lineV s).2.1, .int .i64 (lineV s).2.2]) ∧ Below w.heap.size w w' := by
  have HIP := Lib.hid (fun W => rIsPath_any s W)
  have HMJ := Lib.hid (fun W => rMajor_any s W)
  cases hp : pathOk s with
  | false =>
    have HE := Lib.hid (show lineV s = (⟨#[]⟩, 0, 4) by unfold lineV; rw [hp]; rfl)
    rw [HE.out]
    rw [hp] at HIP
    clear hp
    go_enter Tryz.func152, Tryz.ntmps152
    go_wp2_with fail
    (with_reducible refine (HIP.out _).mono ?_)
    rintro e w1 ⟨rfl, hb1⟩
    have HB1 := Lib.hid hb1
    clear hb1
    go_wp2_with fail
    go_ret3
    exact ⟨rfl, HB1.out⟩
  | true =>
    obtain ⟨i, hi1, hi2, hi3, hi4⟩ := slash_path s hp
    obtain ⟨hd, hhd⟩ : ∃ hd, s.extract 0 i = hd := ⟨_, rfl⟩
    have HE := Lib.hid (show lineV s = (hd, majN s, 0) by unfold lineV; rw [hp, hi1, ← hhd]; rfl)
    rw [show majE s = 0 by unfold majE; rw [hp]; rfl] at HMJ
    rw [HE.out]
    rw [hp] at HIP
    have HH := Lib.hid hhd
    have hget : ∀ j (hj : j < s.size), s.data.toList[j]? = some s[j] := fun j hj => by
      have : j < s.data.toList.length := by rw [← Lib.size_eq]; exact hj
      rw [List.getElem?_eq_getElem this]; simp; rfl
    have HI := Lib.hid (show ((s[i]).toNat : Int) = 47 by
      rw [hget i hi2] at hi3
      rw [Option.some.inj hi3]; rfl)
    have HJ := Lib.hid (show ∀ j (hj : j < s.size), i < j → ¬ ((s[j]).toNat : Int) = 47 from fun j hj hij h => hi4 j hij (by
      rw [hget j hj]
      have : s[j] = 47 := UInt8.toNat_inj.1 (by have : (47 : UInt8).toNat = 47 := rfl; omega)
      rw [this]))
    have HI2 := Lib.hid hi2
    have hsz : (1 : Int) ≤ s.size := by omega
    have hsz2 : (s.size : Int) ≤ 1000000 := by omega
    obtain ⟨mj, hmj⟩ : ∃ mj, majN s = mj := ⟨_, rfl⟩
    rw [hmj] at HMJ ⊢
    clear hp hi1 hi3 hi4 hhd hget hmj
    go_enter Tryz.func152, Tryz.ntmps152
    go_wp2_with fail
    (with_reducible refine (HIP.out _).mono ?_)
    rintro e w1 ⟨rfl, hb1⟩
    have HB1 := Lib.hid hb1
    clear hb1
    go_wp2_with fail
    (with_reducible refine (HMJ.out _).mono ?_)
    rintro e w2 ⟨rfl, hb2⟩
    have HB2 : Hid (Below w.heap.size w w2) := Lib.hid (HB1.out.trans (hb2.mono HB1.out.size))
    clear hb2
    go_wp2_with fail
    go_loop [7] (fun e => ∃ k : Nat, i ≤ k ∧ k < s.size ∧ e = .int .i64 k) (fun e => (intOf e).toNat)
    case atStart => exact ⟨s.size - 1, by have := HI2.out; omega, by have := HI2.out; omega, by have := HI2.out; congr 1; omega⟩
    case round =>
      obtain ⟨k, hk1, hk2, rfl⟩ := hrel
      have hk0 : (0 : Int) ≤ (k : Int) := by omega
      have hk3 : (k : Int) < (s.size : Int) := by omega
      by_cases hik : i = k
      · subst hik
        have h47 : ((((s[i]).toNat : Int)) != 47) = false := by rw [HI.out]; rfl
        have g1 : (0 : Int) ≤ (i : Int) := by omega
        have g2 : (i : Int) ≤ s.size := by omega
        have g3 : i ≤ s.size := by omega
        go_wp2_with fail
        go_ret3
        exact ⟨by rw [← HH.out]; rfl, HB2.out⟩
      · have h47 : ((((s[k]).toNat : Int)) != 47) = true := by
          have := HJ.out k hk2 (by omega)
          simpa using this
        have hk4 : (1 : Int) ≤ (k : Int) := by omega
        go_wp2_with fail
        go_round
        case rel => exact ⟨k - 1, by omega, by omega, by congr 1; omega⟩
        case measure => simp [intOf]; omega
end Go.Proofs.YtenfkejbndifdaaGreatDoor

namespace Go.Proofs.YtenfkejbndifdaaGreatDoor
open Go Go.RowKit

theorem cmpI_lt {a b : Int} (h : a < b) : cmpI a b = -1 := by unfold cmpI; rw [if_pos h]
theorem cmpI_gt {a b : Int} (h : b < a) : cmpI a b = 1 := by unfold cmpI; rw [if_neg (by omega), if_pos h]
theorem cmpI_eq {a b : Int} (h : a = b) : cmpI a b = 0 := by unfold cmpI; rw [if_neg (by omega), if_neg (by omega)]
theorem cmpI_ne {a b : Int} (h : a < b ∨ b < a) : cmpI a b ≠ 0 := by
  rcases h with h | h
  · rw [cmpI_lt h]; decide
  · rw [cmpI_gt h]; decide
set_option maxRecDepth 100000 in
set_option maxHeartbeats 8000000 in
theorem rCompare_any (a b c x y z : Int) (w : World) : Calls Tryz.prog 151 #[.agg #[.int .i64 a, .int .i64 b, .int .i64 c], .agg #[.int .i64 x, .int .i64 y, .int .i64 z]] w fun e w' => e = .returned (.int .i64 (cmpV a b c x y z)) ∧ Below w.heap.size w w' := by
  go_enter Tryz.func151, Tryz.ntmps151
  go_wp2_with fail
  obtain ⟨W, hW⟩ : ∃ W, (((w.alloc (.cells #[.int .i64 a, .int .i64 b, .int .i64 c] 41)).alloc (.cells #[.int .i64 x, .int .i64 y, .int .i64 z] 41)).alloc (.cells #[.int .i64 a, .int .i64 b, .int .i64 c] 3)).alloc (.cells #[.int .i64 x, .int .i64 y, .int .i64 z] 3) = W := ⟨_, rfl⟩
  rw [hW]
  have HB0 : Hid (Below w.heap.size w W) := Lib.hid (by rw [← hW]; exact (by repeat (first | exact Below.refl _ _ | refine Below.drew ?_ | refine Below.alloc ?_ (by simp <;> omega) _ | refine Below.setCell ?_ (by simp <;> omega) _)))
  have e0 : W.cell? ⟨w.heap.size + 1 + 1, 0, none⟩ = some (.int .i64 a) := by rw [← hW]; simp [go_sem]
  have e1 : W.cell? ⟨w.heap.size + 1 + 1, 1, none⟩ = some (.int .i64 b) := by rw [← hW]; simp [go_sem]
  have e2 : W.cell? ⟨w.heap.size + 1 + 1, 2, none⟩ = some (.int .i64 c) := by rw [← hW]; simp [go_sem]
  have k0 : W.cell? ⟨w.heap.size + 1 + 1 + 1, 0, none⟩ = some (.int .i64 x) := by rw [← hW]; simp [go_sem]
  have k1 : W.cell? ⟨w.heap.size + 1 + 1 + 1, 1, none⟩ = some (.int .i64 y) := by rw [← hW]; simp [go_sem]
  have k2 : W.cell? ⟨w.heap.size + 1 + 1 + 1, 2, none⟩ = some (.int .i64 z) := by rw [← hW]; simp [go_sem]
  clear hW
  go_loopw [7] (fun i wr => ((i = .int .i64 0) ∨ (i = .int .i64 1 ∧ Hid (cmpI a x = 0)) ∨ (i = .int .i64 2 ∧ Hid (cmpI a x = 0 ∧ cmpI b y = 0)) ∨ (i = .int .i64 3 ∧ Hid (cmpV a b c x y z = 0))) ∧ Hid (∃ n, wr = W.drewN n)) (fun i _ => 3 - (intOf i).toNat)
  case atStart => exact ⟨.inl rfl, Lib.hid ⟨0, rfl⟩⟩
  case round =>
    obtain ⟨hrel, HW⟩ := hrel
    obtain ⟨n, hn⟩ := HW.out
    replace e0 : wr.cell? ⟨w.heap.size + 1 + 1, 0, none⟩ = some (.int .i64 a) := by rw [hn]; exact e0
    replace e1 : wr.cell? ⟨w.heap.size + 1 + 1, 1, none⟩ = some (.int .i64 b) := by rw [hn]; exact e1
    replace e2 : wr.cell? ⟨w.heap.size + 1 + 1, 2, none⟩ = some (.int .i64 c) := by rw [hn]; exact e2
    replace k0 : wr.cell? ⟨w.heap.size + 1 + 1 + 1, 0, none⟩ = some (.int .i64 x) := by rw [hn]; exact k0
    replace k1 : wr.cell? ⟨w.heap.size + 1 + 1 + 1, 1, none⟩ = some (.int .i64 y) := by rw [hn]; exact k1
    replace k2 : wr.cell? ⟨w.heap.size + 1 + 1 + 1, 2, none⟩ = some (.int .i64 z) := by rw [hn]; exact k2
    have HBW : Hid (Below w.heap.size w wr) := Lib.hid (by rw [hn]; exact below_drewNV HB0.out _)
    have HN := Lib.hid hn
    clear hn HW
    rcases hrel with rfl | ⟨rfl, H1⟩ | ⟨rfl, H2⟩ | ⟨rfl, H3⟩
    · rcases Int.lt_trichotomy a x with h | h | h
      · have H0 := Lib.hid (cmpV_0 (b := b) (c := c) (y := y) (z := z) (cmpI_ne (.inl h)))
        have HR := Lib.hid (cmpI_lt h)
        go_wp2_with fail
        go_quiet (fail)
        go_wp2_with fail
        go_ret
        exact ⟨by rw [H0.out, HR.out]; rfl, below_drewNV HBW.out _⟩
      · have H0 := Lib.hid (cmpI_eq h)
        have h1 : ¬ a < x := by omega
        have h2 : ¬ x < a := by omega
        clear h
        go_wp2_with fail
        go_quiet (fail)
        go_wp2_with fail
        go_quiet (fail)
        go_wp2_with fail
        go_roundw
        case rel => exact ⟨.inr (.inl ⟨rfl, H0⟩), Lib.hid ⟨_, by rw [HN.out]; simp only [World.drewN_drewN]; rfl⟩⟩
        case measure => simp [intOf]
      · have H0 := Lib.hid (cmpV_0 (b := b) (c := c) (y := y) (z := z) (cmpI_ne (.inr h)))
        have HR := Lib.hid (cmpI_gt h)
        have h1 : ¬ a < x := by omega
        go_wp2_with fail
        go_quiet (fail)
        go_wp2_with fail
        go_quiet (fail)
        go_wp2_with fail
        go_ret
        exact ⟨by rw [H0.out, HR.out]; rfl, by first | exact below_drewNV (below_drewNV HBW.out _) _ | exact below_drewNV HBW.out _⟩
    · rcases Int.lt_trichotomy b y with h | h | h
      · have H0 := Lib.hid (cmpV_1 (c := c) (z := z) H1.out (cmpI_ne (.inl h)))
        have HR := Lib.hid (cmpI_lt h)
        go_wp2_with fail
        go_quiet (fail)
        go_wp2_with fail
        go_ret
        exact ⟨by rw [H0.out, HR.out]; rfl, below_drewNV HBW.out _⟩
      · have H0 := Lib.hid (cmpI_eq h)
        have h1 : ¬ b < y := by omega
        have h2 : ¬ y < b := by omega
        clear h
        go_wp2_with fail
        go_quiet (fail)
        go_wp2_with fail
        go_quiet (fail)
        go_wp2_with fail
        go_roundw
        case rel => exact ⟨.inr (.inr (.inl ⟨rfl, Lib.hid ⟨H1.out, H0.out⟩⟩)), Lib.hid ⟨_, by rw [HN.out]; simp only [World.drewN_drewN]; rfl⟩⟩
        case measure => simp [intOf]
      · have H0 := Lib.hid (cmpV_1 (c := c) (z := z) H1.out (cmpI_ne (.inr h)))
        have HR := Lib.hid (cmpI_gt h)
        have h1 : ¬ b < y := by omega
        go_wp2_with fail
        go_quiet (fail)
        go_wp2_with fail
        go_quiet (fail)
        go_wp2_with fail
        go_ret
        exact ⟨by rw [H0.out, HR.out]; rfl, by first | exact below_drewNV (below_drewNV HBW.out _) _ | exact below_drewNV HBW.out _⟩
    · rcases Int.lt_trichotomy c z with h | h | h
      · have H0 := Lib.hid (cmpV_2 (c := c) (z := z) H2.out.1 H2.out.2)
        have HR := Lib.hid (cmpI_lt h)
        go_wp2_with fail
        go_quiet (fail)
        go_wp2_with fail
        go_ret
        exact ⟨by rw [H0.out, HR.out]; rfl, below_drewNV HBW.out _⟩
      · have H0 := Lib.hid (cmpI_eq h)
        have h1 : ¬ c < z := by omega
        have h2 : ¬ z < c := by omega
        clear h
        go_wp2_with fail
        go_quiet (fail)
        go_wp2_with fail
        go_quiet (fail)
        go_wp2_with fail
        go_roundw
        case rel => exact ⟨.inr (.inr (.inr ⟨rfl, Lib.hid ((cmpV_2 H2.out.1 H2.out.2).trans H0.out)⟩)), Lib.hid ⟨_, by rw [HN.out]; simp only [World.drewN_drewN]; rfl⟩⟩
        case measure => simp [intOf]
      · have H0 := Lib.hid (cmpV_2 (c := c) (z := z) H2.out.1 H2.out.2)
        have HR := Lib.hid (cmpI_gt h)
        have h1 : ¬ c < z := by omega
        go_wp2_with fail
        go_quiet (fail)
        go_wp2_with fail
        go_quiet (fail)
        go_wp2_with fail
        go_ret
        exact ⟨by rw [H0.out, HR.out]; rfl, by first | exact below_drewNV (below_drewNV HBW.out _) _ | exact below_drewNV HBW.out _⟩
    · go_wp2_with fail
      go_ret
      exact ⟨by rw [H3.out]; rfl, HBW.out⟩
end Go.Proofs.YtenfkejbndifdaaGreatDoor

namespace Go.Proofs.YtenfkejbndifdaaGreatDoor
set_option linter.unusedVariables false
set_option linter.unusedSimpArgs false
open Go Go.RowKit

def majV (s : ByteArray) : Int := if (lineV s).2.2 ≠ 0 then -1 else (lineV s).2.1
set_option maxRecDepth 100000 in
theorem rmajor32_any (s : ByteArray) (w : World) (hs : s.size ≤ 1000000) : Calls Tryz.prog 123 #[.string s] w fun e w' => e = .returned (.int .i64 (majV s)) ∧ Below w.heap.size w w' := by
  have HL := Lib.hid (rLine_any s w hs)
  unfold majV
  obtain ⟨⟨ln, lm, le⟩, hln⟩ : ∃ z, lineV s = z := ⟨_, rfl⟩
  rw [hln] at HL ⊢
  simp only at HL ⊢
  clear hln
  by_cases h : le = 0
  · subst h
    rw [if_neg (by simp)]
    go_enter Tryz.func123, Tryz.ntmps123
    go_wp2_with fail
    refine HL.out.mono ?_
    rintro e w1 ⟨rfl, hb1⟩
    go_wp2_with fail
    go_ret
    exact ⟨rfl, hb1⟩
  · have hb : (le != 0) = true := by simpa using h
    rw [if_pos h]
    go_enter Tryz.func123, Tryz.ntmps123
    go_wp2_with fail
    refine HL.out.mono ?_
    rintro e w1 ⟨rfl, hb1⟩
    go_wp2_with fail
    go_ret
    exact ⟨rfl, hb1⟩
set_option maxRecDepth 100000 in
theorem rdigest_any (s : ByteArray) (w : World) : Calls Tryz.prog 150 #[.string s] w fun e w' => e = .returned (.bool (digB s)) ∧ w = w' := by
  unfold digB
  by_cases h0 : s.size = 0
  · have hb : ((s.size : Int) == 0) = true := by simp [h0]
    rw [h0]
    go_enter Tryz.func150, Tryz.ntmps150
    go_wp2_with fail
    go_ret
    exact ⟨by simp, rfl⟩
  · have hb : ((s.size : Int) == 0) = false := beq_eq_false_iff_ne.2 (by omega)
    by_cases h1 : s.size = 32
    · have hb1 : ((s.size : Int) == 32) = true := by simp [h1]
      rw [h1]
      go_enter Tryz.func150, Tryz.ntmps150
      go_wp2_with fail
      go_ret
      exact ⟨by simp, rfl⟩
    · have hb1 : ((s.size : Int) == 32) = false := beq_eq_false_iff_ne.2 (by omega)
      have HX := Lib.hid (show (decide (s.size = 0) || decide (s.size = 32)) = false by simp [h0, h1])
      rw [HX.out]
      go_enter Tryz.func150, Tryz.ntmps150
      go_wp2_with fail
      go_ret
      exact ⟨by simp, rfl⟩
set_option maxRecDepth 100000 in
set_option maxHeartbeats 4000000 in
theorem rcompare32_any (a b : RelL) (ra rb : Value) (w : World) : Calls Tryz.prog 122 #[.agg (relC a ra), .agg (relC b rb)] w fun e w' => e = .returned (.int .i64 (cmpR a b)) ∧ Below w.heap.size w w' := by
  have HC := Lib.hid (fun W => rCompare_any a.ver.1 a.ver.2.1 a.ver.2.2 b.ver.1 b.ver.2.1 b.ver.2.2 W)
  rw [cmpR_or]
  obtain ⟨R, hR⟩ : ∃ R, (if cmpS a.path b.path ≠ 0 then cmpS a.path b.path else cmpV a.ver.1 a.ver.2.1 a.ver.2.2 b.ver.1 b.ver.2.1 b.ver.2.2) = R := ⟨_, rfl⟩
  rw [hR]
  unfold cmpS at hR
  simp only [relC]
  cases h1 : ltB a.path b.path with
  | true =>
    have HR := Lib.hid (show R = -1 by rw [← hR, h1]; simp)
    unfold ltB at h1
    clear hR HC
    go_enter Tryz.func122, Tryz.ntmps122
    go_wp2_with fail
    go_ret
    exact ⟨by rw [HR.out]; rfl, (by repeat (first | exact Below.refl _ _ | refine Below.drew ?_ | refine Below.alloc ?_ (by simp <;> omega) _ | refine Below.setCell ?_ (by simp <;> omega) _))⟩
  | false =>
    cases h2 : ltB b.path a.path with
    | true =>
      have HR := Lib.hid (show R = 1 by rw [← hR, h1, h2]; simp)
      have h3 : (a.path.toList == b.path.toList) = false := by
        by_cases e : a.path.toList = b.path.toList
        · unfold ltB at h1 h2; rw [e] at h1 h2; rw [h1] at h2; cases h2
        · simpa using e
      unfold ltB at h1 h2
      clear hR HC
      go_enter Tryz.func122, Tryz.ntmps122
      go_wp2_with fail
      go_ret
      exact ⟨by rw [HR.out]; rfl, (by repeat (first | exact Below.refl _ _ | refine Below.drew ?_ | refine Below.alloc ?_ (by simp <;> omega) _ | refine Below.setCell ?_ (by simp <;> omega) _))⟩
    | false =>
      have hR2 : cmpV a.ver.1 a.ver.2.1 a.ver.2.2 b.ver.1 b.ver.2.1 b.ver.2.2 = R := by rw [← hR, h1, h2]; simp
      rw [hR2] at HC
      have h3 : (a.path.toList == b.path.toList) = true := by
        unfold ltB at h1 h2
        rw [less_tri _ _ h1 h2]
        simp
      unfold ltB at h1 h2
      clear hR hR2
      go_enter Tryz.func122, Tryz.ntmps122
      go_wp2_with fail
      refine (HC.out _).mono ?_
      rintro e w1 ⟨rfl, hb⟩
      have HB := Lib.hid ((show Below w.heap.size w _ from (by repeat (first | exact Below.refl _ _ | refine Below.drew ?_ | refine Below.alloc ?_ (by simp <;> omega) _ | refine Below.setCell ?_ (by simp <;> omega) _))).trans (hb.mono (by simp only [World.size_alloc]; omega)))
      clear hb
      go_wp2_with fail
      go_ret
      exact ⟨rfl, HB.out⟩
end Go.Proofs.YtenfkejbndifdaaGreatDoor
