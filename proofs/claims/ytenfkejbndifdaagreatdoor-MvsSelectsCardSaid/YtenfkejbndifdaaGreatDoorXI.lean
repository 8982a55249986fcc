/- The law MvsSatisfies returns true. Contract of the reference's decimal. Contracts of the reference's Segments, segment, Major and IsPath. Contracts of the reference's Line and Path. -/
import Derived.Test.YtenfkejbndifdaaGreatDoorXH
import Derived.Test.YtenfkejbndifdaaGreatDoorWK
import Derived.Test.YtenfkejbndifdaaGreatDoorWP
import Derived.Test.YtenfkejbndifdaaGreatDoorWB
import Derived.Test.YtenfkejbndifdaaGreatDoorWC
namespace Go.Proofs.YtenfkejbndifdaaGreatDoor
set_option linter.unusedVariables false
set_option linter.unusedSimpArgs false
open Go Go.RowKit

structure LawB (w : World) (v iv : Value) (W : World) : Prop where
  bel : Below w.heap.size w W
  idx : W.heap[w.heap.size]? = some (.cells #[v, iv] 25 (0, 0))
theorem LawB.lt {w : World} {v iv : Value} {W : World} (h : LawB w v iv W) : w.heap.size < W.heap.size := (Array.getElem?_eq_some_iff.1 h.idx).1
theorem LawB.below {w : World} {v iv : Value} {W W' : World} (h : LawB w v iv W) (hb : Below W.heap.size W W') : LawB w v iv W' := ⟨h.bel.trans (hb.mono h.bel.size), (hb.block _ h.lt).trans h.idx⟩
theorem LawB.start (w : World) (v iv : Value) : LawB w v iv (w.alloc (.cells #[v, iv] 25)) := ⟨belQ _ _, World.alloc_heap_new w _⟩
theorem LawB.c0 {w : World} {v iv : Value} {W : World} (h : LawB w v iv W) : W.cell? ⟨w.heap.size, 0, none⟩ = some v := cell_of_row _ _ 0 _ _ _ h.idx
theorem LawB.c1 {w : World} {v iv : Value} {W : World} (h : LawB w v iv W) : W.cell? ⟨w.heap.size, 1, none⟩ = some iv := cell_of_row _ _ 1 _ _ _ h.idx
theorem FewR.bd {X : List RelL} {m : Nat} (h : FewR X m) : ∀ x ∈ X, RelBd x := fun x hx => by
  obtain ⟨h1, _, _, _, h5⟩ := h.all x hx
  exact ⟨by omega, by have := h5.len; omega, fun q hq => by have := h5.all q hq; omega⟩
theorem FewQ.bd {l : List ReqL} (h : FewQ l) : ReqsBd l := fun q hq => by have := h.all q hq; omega
def GeOk (a b : SelL) : Prop := ¬ b.2.2.1 < a.2.2.1 ∧ ¬ (b.2.2.1 = a.2.2.1 ∧ b.2.2.2 < a.2.2.2)
end Go.Proofs.YtenfkejbndifdaaGreatDoor

namespace Go.Proofs.YtenfkejbndifdaaGreatDoor
open Go Go.RowKit

end Go.Proofs.YtenfkejbndifdaaGreatDoor

namespace Go.Proofs.YtenfkejbndifdaaGreatDoor
open Go Go.RowKit

theorem conv_one (c : UInt8) (w : World) : (convert 241 9 (.slice (some ⟨w.heap.size, 0, none⟩) 1 1)).run Tryz.prog (w.alloc (.cells #[.int .u8 c.toNat] 5)).drew = .ok (.string ⟨#[c]⟩) (w.alloc (.cells #[.int .u8 c.toNat] 5)).drew :=
  conv_own 0 _ [c] _ (Lib.hid (Mine.new 5 1 0 1 [.int .u8 c.toNat] _ w (Nat.zero_le _) rfl rfl (by decide)).out)
theorem Mine.set {e B g cap n : Nat} {xs : List Value} {w : World} (h : Hid (Mine e 1 B (.slice (some ⟨g, 0, none⟩) n cap) n xs w)) (j : Nat) (u : Value) : Hid (Mine e 1 B (.slice (some ⟨g, 0, none⟩) n cap) n (xs.set j u) (w.setCell ⟨g, j, none⟩ u)) := by
  obtain ⟨h1, h2⟩ := h.out
  refine Lib.hid ⟨(h1.stored j u).1, ?_⟩
  have : (w.setCell ⟨g, j, none⟩ u).heap.size = w.heap.size := by simp
  omega
def strVs (l : List (List UInt8)) : List Value := l.map fun x => .string ⟨x.toArray⟩
theorem segs_pos (l : List UInt8) : 0 < (segsL l).length := List.length_pos_iff.2 (segsL_ne l)

theorem strVs_set (sg : List (List UInt8)) (hne : sg ≠ []) (l : List UInt8) (nn : Nat) (hn : sg.length = nn + 1) (x : ByteArray) (hx : x = ⟨l.toArray⟩) : (strVs sg).set nn (.string x) = strVs (sg.dropLast ++ [l]) := by
  subst hx
  have e : sg = sg.dropLast ++ [sg.getLast hne] := (List.dropLast_concat_getLast hne).symm
  have hl : nn = (sg.dropLast.map fun x => Value.string ⟨x.toArray⟩).length := by simp; omega
  unfold strVs
  conv => lhs; rw [e]
  rw [List.map_append, List.map_append, hl, List.set_append_right _ _ (Nat.le_refl _)]
  simp
theorem strVs_B (s : ByteArray) : strVs (segsL s.data.toList) = (segB s).map Value.string := by
  unfold strVs segB; rw [List.map_map]; rfl

set_option maxRecDepth 100000 in
set_option maxHeartbeats 4000000 in
theorem Segments_any (s : ByteArray) (w : World) (hs : s.size ≤ 1000000) :
    Calls Tryz.prog 212 #[.string s] w fun e w' => ∃ v, e = .returned v ∧ Mine 9 1 w.heap.size v (segsL s.data.toList).length (strVs (segsL s.data.toList)) w' ∧ Below w.heap.size w w' := by
  obtain ⟨B, hB⟩ : ∃ B, B = w.heap.size := ⟨_, rfl⟩
  have HBB := Lib.hid hB
  have hB2 : B ≤ w.heap.size := by omega
  have hcn : Hid (Mine 9 1 B (.slice (some ⟨w.heap.size, 0, none⟩) 1 1) 1 [.string ⟨#[]⟩] (w.alloc (.cells #[.string ⟨#[]⟩] 9))) := Mine.new _ _ _ _ _ _ _ hB2 rfl rfl (by decide)
  have hb0 : Below B w (w.alloc (.cells #[.string ⟨#[]⟩] 9)) := (Below.refl _ _).alloc hB2 _
  clear hB hB2
  go_enter Tryz.func212, Tryz.ntmps212
  go_wp2_with fail
  go_loopw [3, 4] (fun o i wr => ∃ k : Nat, k ≤ s.size ∧ i = .int .i64 k ∧ Hid (Mine 9 1 B o (segsL (s.data.toList.take k)).length (strVs (segsL (s.data.toList.take k))) wr) ∧ Hid (Below B w wr)) (fun _ i _ => s.size - (intOf i).toNat)
  case atStart => exact ⟨0, by omega, rfl, hcn, Lib.hid hb0⟩
  case round =>
    clear hcn hb0
    obtain ⟨k, hk, rfl, HO, hbel⟩ := hrel
    by_cases hlt : k < s.size
    · have HT : Hid (s.data.toList.take (k + 1) = s.data.toList.take k ++ [s[k]]) := Lib.hid (by rw [List.take_succ_eq_append_getElem (by simpa using hlt)]; rfl)
      have hp := segs_pos (s.data.toList.take k)
      have hle := segsL_length (s.data.toList.take k)
      rw [List.length_take, ← Lib.size_eq] at hle
      have hne := segsL_ne (s.data.toList.take k)
      have hsl := segsL_le (s.data.toList.take k)
      have htl : (s.data.toList.take k).length ≤ s.size := by rw [List.length_take, ← Lib.size_eq]; omega
      have h255 : (s[k]).toNat ≤ 255 := by have := (s[k]).toNat_lt; omega
      generalize hcs : s[k] = c at *
      by_cases h1 : c = 47
      · subst h1
        have HE : Hid (segsL (s.data.toList.take (k + 1)) = segsL (s.data.toList.take k) ++ [[]]) := Lib.hid (by rw [HT.out, segsL_snoc_slash])
        obtain ⟨sg, hsg⟩ : ∃ sg, segsL (s.data.toList.take k) = sg := ⟨_, rfl⟩
        rw [hsg] at HO HE hp hle hne
        clear hsg HT hne hsl htl
        obtain ⟨nn, hnn⟩ : ∃ nn, sg.length = nn := ⟨_, rfl⟩
        have HN := Lib.hid hnn
        rw [hnn] at HO hp hle
        clear hnn
        go_wp2_with (at_builtin; refine app_strs _ rfl _ _ (by rfl) B _ _ _ (by rfl) HO 1 [.string ⟨#[]⟩] _ (by rfl) (by rfl) (by rfl) (by simp [Value.oneCell']) (by decide) (by omega) ?_; intro g cap w2 HO2 hb2)
        go_roundw
        case rel => exact ⟨k + 1, by omega, by go_num, Lib.hid (by have := HO2.out; rw [HE.out, List.length_append, HN.out]; simpa [strVs] using this), Lib.hid (hbel.out.trans hb2)⟩
        case measure => simp [intOf]; omega
      · have e1 : ((c.toNat : Int) == 47) = false := by rw [beq_eq_false_iff_ne]; intro e; exact h1 (UInt8.toNat_inj.1 (by have : ((47 : UInt8).toNat) = 47 := rfl; omega))
        have HE : Hid (segsL (s.data.toList.take (k + 1)) = (segsL (s.data.toList.take k)).dropLast ++ [(segsL (s.data.toList.take k)).getLast hne ++ [c]]) := Lib.hid (by rw [HT.out, segsL_snoc_other _ _ h1])
        clear h1
        clear HT
        generalize segsL (s.data.toList.take k) = sg at *
        obtain ⟨nn, hnn⟩ : ∃ nn, sg.length = nn + 1 := ⟨sg.length - 1, by omega⟩
        have HN := Lib.hid hnn
        rw [hnn] at HO hle
        obtain ⟨g, cap, rfl⟩ := HO.out.shape (by omega)
        obtain ⟨lb, hlb⟩ : ∃ lb : ByteArray, ⟨(sg.getLast hne).toArray⟩ = lb := ⟨_, rfl⟩
        have hcell : wr.cell? ⟨g, nn, none⟩ = some (.string lb) := by
          rw [HO.out.cell nn (by omega), ← hlb, strVs, List.getElem?_map]
          rw [show sg[nn]? = some (sg.getLast hne) by rw [List.getLast_eq_getElem]; rw [List.getElem?_eq_getElem (by omega)]; congr 2; omega]
          rfl
        have hfz : wr.frozen? ⟨g, nn, none⟩ = false := HO.out.1.frozenAt nn
        have hbw : Below wr.heap.size wr (wr.alloc (.cells #[.int .u8 c.toNat] 5)) := (Below.refl _ _).alloc (Nat.le_refl _) _
        have hge := HO.out.ge.2
        have hcell2 := (hbw.cell (p := ⟨g, nn, none⟩) hge).trans hcell
        have hfz2 := (hbw.frozen (p := ⟨g, nn, none⟩) hge).trans hfz
        have HO3 := Mine.set (Mine.below HO hbw) nn (.string (lb ++ ⟨#[c]⟩))
        have HB3 : Hid (Below B w ((wr.alloc (.cells #[.int .u8 c.toNat] 5)).setCell ⟨g, nn, none⟩ (.string (lb ++ ⟨#[c]⟩)))) := Lib.hid ((hbel.out.trans (hbw.mono HO.out.2)).setCell (p := ⟨g, nn, none⟩) HO.out.ge.1 _)
        clear hbw hge
        have hcv := conv_one c wr
        have hls : lb.size ≤ 1000000 := by
          have := hsl _ (List.getLast_mem hne)
          rw [← hlb, Lib.size_eq]
          show (sg.getLast hne).toArray.toList.length ≤ _
          simp
          omega
        have hno : ¬ 9223372036854775807 < lb.size + (⟨#[c]⟩ : ByteArray).size := by have : (⟨#[c]⟩ : ByteArray).size = 1 := rfl; omega
        have hno2 : ¬ 9223372036854775806 < lb.size := by omega
        have hno3 : ¬ 9223372036854775807 < lb.size + 1 := by omega
        have HL := Lib.hid hlb
        clear hlb hp
        have q1 : IntKind.i64.wrap (nn : Int) = nn := by rw [IntKind.wrap_i64]; omega
        go_wp2_with fail
        go_region
        go_wp2
        go_roundw
        case rel => exact ⟨k + 1, by omega, by go_num, Lib.hid (by
          have h1 := HO3.out
          rw [HE.out]
          have e1 : (sg.dropLast ++ [sg.getLast hne ++ [c]]).length = nn + 1 := by have := HN.out; simp; omega
          rw [e1, ← strVs_set sg hne _ nn HN.out (lb ++ ⟨#[c]⟩) (by rw [← HL.out]; apply ByteArray.ext; simp [ByteArray.data_append])]
          exact h1), Lib.hid HB3.out.drew⟩
        case measure => simp [intOf]; omega
    · have hkk : k = s.size := by omega
      subst hkk
      rw [List.take_of_length_le (by rw [← Lib.size_eq]; exact Nat.le_refl _)] at HO
      go_wp2
      go_ret
      exact ⟨_, rfl, by rw [← HBB.out]; exact HO.out, by rw [← HBB.out]; exact hbel.out⟩

set_option maxHeartbeats 400000 in
theorem rsegment_any (s : ByteArray) (w : World) (hs : s.size ≤ maxLen) :
    Calls Tryz.prog 213 #[.string s] w fun e w' => e = .returned (.bool (segOk s)) ∧ Below w.heap.size w w' := by
  have HN := Lib.hid (rIsName_any s w hs)
  unfold maxLen at hs
  have HS : Hid (segOk s = (nameS s && allZ pathZ s)) := Lib.hid rfl
  go_enter Tryz.func213, Tryz.ntmps213
  go_wp2
  go_loop [3] (fun i => ∃ k : Nat, k ≤ s.size ∧ i = .int .i64 k ∧ Hid ((s.data.toList.take k).all (fun b => pathZ b.toNat) = true)) (fun i => s.size - (intOf i).toNat)
  case atStart => exact ⟨0, Nat.zero_le _, rfl, Lib.hid rfl⟩
  case round =>
    obtain ⟨k, hk, rfl, HA⟩ := hrel
    by_cases hlt : k < s.size
    · have HZ : Hid (pathZ (s[k].toNat : Int) = (smallZ (s[k].toNat : Int) || digitZ (s[k].toNat : Int))) := Lib.hid rfl
      cases h1 : smallZ (s[k].toNat : Int)
      · cases h2 : digitZ (s[k].toNat : Int)
        · have hb : Hid (¬ pathZ (s[k].toNat : Int) = true) := Lib.hid (by rw [HZ.out, h1, h2]; exact Bool.false_ne_true)
          go_wp2_with (first | (go_at_call 225; refine (rsmall_any _ _).mono ?_; rintro e w' ⟨rfl, rfl⟩) | (go_at_call 226; refine (rdigit_any _ _).mono ?_; rintro e w' ⟨rfl, rfl⟩))
          go_ret
          exact ⟨ret_bool (by rw [HS.out, all_not _ s k hlt hb.out, Bool.and_false]), Below.refl _ _⟩
        · have hb : Hid (pathZ (s[k].toNat : Int) = true) := Lib.hid (by rw [HZ.out, h1, h2]; rfl)
          go_wp2_with (first | (go_at_call 225; refine (rsmall_any _ _).mono ?_; rintro e w' ⟨rfl, rfl⟩) | (go_at_call 226; refine (rdigit_any _ _).mono ?_; rintro e w' ⟨rfl, rfl⟩))
          go_round
          case rel => exact ⟨k + 1, by omega, by go_num, Lib.hid (all_take _ s k hlt HA.out hb.out)⟩
          case measure => simp [intOf]; omega
      · have hb : Hid (pathZ (s[k].toNat : Int) = true) := Lib.hid (by rw [HZ.out, h1]; rfl)
        go_wp2_with (first | (go_at_call 225; refine (rsmall_any _ _).mono ?_; rintro e w' ⟨rfl, rfl⟩) | (go_at_call 226; refine (rdigit_any _ _).mono ?_; rintro e w' ⟨rfl, rfl⟩))
        go_round
        case rel => exact ⟨k + 1, by omega, by go_num, Lib.hid (all_take _ s k hlt HA.out hb.out)⟩
        case measure => simp [intOf]; omega
    · have HD := Lib.hid (all_done pathZ s k (by omega) HA.out)
      go_wp2_with fail
      refine HN.out.mono ?_
      rintro e w' ⟨rfl, hb⟩
      go_wp2
      go_ret
      exact ⟨ret_bool (by rw [HS.out, HD.out, Bool.and_true]), hb⟩

theorem majZ_yes {s : ByteArray} (h : verOk s = true) : majZ s = verN s ∧ 0 ≤ verN s := by
  have h2 : majZ s = verN s := by unfold majZ; rw [if_pos h]
  refine ⟨h2, ?_⟩
  unfold verN
  rw [if_pos h]
  unfold verOk okR at h
  simp only [Bool.and_eq_true] at h
  have h3 := h.2.2.2.2
  unfold allZ at h3
  rw [List.all_eq_true, tailS_data] at h3
  exact (valL_lt _ (fun b hb => h3 b hb)).1

set_option maxRecDepth 100000 in
set_option maxHeartbeats 2000000 in
theorem rMajor_any (s : ByteArray) (w : World) :
    Calls Tryz.prog 183 #[.string s] w fun e w' => e = .returned (.tuple #[.int .i64 (majN s), .int .i64 (majE s)]) ∧ Below w.heap.size w w' := by
  have HP : Hid (pathOk s = (decide (s.size ≤ 64) && (decide (2 ≤ (segB s).length) && (verOk (lastB s) && (segB s).all segOk)))) := Lib.hid rfl
  have HN : Hid (majN s = if pathOk s then verN (lastB s) else 0) := Lib.hid rfl
  have HE : Hid (majE s = if pathOk s then 0 else 4) := Lib.hid rfl
  by_cases h2 : s.size ≤ 64
  case neg =>
    have HT : Hid (pathOk s = false) := Lib.hid (by rw [HP.out, decide_eq_false h2]; rfl)
    have h3 : 64 < (s.size : Int) := by omega
    go_enter Tryz.func183, Tryz.ntmps183
    go_wp2
    go_ret2
    exact ⟨ret_ii (by rw [HN.out, HT.out]; rfl) (by rw [HE.out, HT.out]; rfl), Below.refl _ _⟩
  have h3 : ¬ 64 < (s.size : Int) := by omega
  have hne := segB_ne s
  have hln := segB_length s
  have hsz := segB_le s
  have hlm := lastB_mem s
  have HD2 := Lib.hid (decide_eq_true h2)
  have HG := Lib.hid (Segments_any s w (by omega))
  have HB := Lib.hid (strVs_B s)
  have HBL : Hid ((segsL s.data.toList).length = (segB s).length) := Lib.hid (by unfold segB; rw [List.length_map])
  have HLB : Hid ((segB s)[(segB s).length - 1]? = some (lastB s)) := Lib.hid (by unfold lastB; rw [List.getD_eq_getElem?_getD, List.getElem?_eq_getElem (by omega)]; rfl)
  go_enter Tryz.func183, Tryz.ntmps183
  go_wp2_with fail
  refine HG.out.mono ?_
  rintro e w1 ⟨v, rfl, hv, hb⟩
  rw [HB.out, HBL.out] at hv
  obtain ⟨g, cap, rfl⟩ := hv.shape hne
  have hcells : ∀ i (h : i < (segB s).length), w1.cell? ⟨g, i, none⟩ = some (.string (segB s)[i]) := fun i h => by rw [hv.cell i (by omega), List.getElem?_map, List.getElem?_eq_getElem h]; rfl
  have hg := hv.ge
  have hbl := hb
  generalize hsgg : segB s = sg at *
  generalize lastB s = lb at *
  have H1 := Lib.hid hcells
  have H2 := Lib.hid hsz
  have HM := Lib.hid hlm
  have HSG := Lib.hid hsgg
  clear hcells hsz hlm hsgg hb hv
  go_wp2_with fail
  go_loopw [5] (fun i wr => ∃ k : Nat, k ≤ sg.length ∧ i = .int .i64 k ∧ Hid ((sg.take k).all segOk = true) ∧ Hid (Below w1.heap.size w1 wr)) (fun i _ => sg.length - (intOf i).toNat)
  case atStart => exact ⟨0, Nat.zero_le _, rfl, Lib.hid rfl, Lib.hid (Below.refl _ _)⟩
  case round =>
    obtain ⟨k, hk, rfl, HA, hbr⟩ := hrel
    by_cases hlt : k < sg.length
    · have hck : wr.cell? ⟨g, k, none⟩ = some (.string sg[k]) := (hbr.out.cell (p := ⟨g, k, none⟩) hg.2).trans (H1.out k hlt)
      have HX := Lib.hid (H2.out _ (List.getElem_mem hlt))
      have HO : Hid ((sg.take (k + 1)).all segOk = ((sg.take k).all segOk && segOk sg[k])) := Lib.hid (by rw [List.take_succ_eq_append_getElem hlt, List.all_append]; simp)
      have HF : Hid (segOk sg[k] = false → sg.all segOk = false) := Lib.hid (fun h => by rw [List.all_eq_false]; exact ⟨sg[k], List.getElem_mem hlt, by rw [h]; exact Bool.false_ne_true⟩)
      generalize sg[k] = x at *
      cases h4 : segOk x
      · have HT : Hid (pathOk s = false) := Lib.hid (by rw [HP.out, HF.out h4]; simp)
        go_wp2_with fail
        refine (rsegment_any x wr (by have := HX.out; unfold maxLen; omega)).mono ?_
        rintro e w2 ⟨rfl, hb2⟩
        rw [h4]
        go_wp2
        go_ret2
        exact ⟨ret_ii (by rw [HN.out, HT.out]; rfl) (by rw [HE.out, HT.out]; rfl), (hbl.trans (hbr.out.mono hbl.size)).trans (hb2.mono (hbl.trans (hbr.out.mono hbl.size)).size)⟩
      · have HO2 : Hid ((sg.take (k + 1)).all segOk = true) := Lib.hid (by rw [HO.out, HA.out, h4]; rfl)
        go_wp2_with fail
        refine (rsegment_any x wr (by have := HX.out; unfold maxLen; omega)).mono ?_
        rintro e w2 ⟨rfl, hb2⟩
        rw [h4]
        go_wp2
        go_roundw
        case rel => exact ⟨k + 1, by omega, by go_num, HO2, Lib.hid (hbr.out.trans (hb2.mono hbr.out.size))⟩
        case measure => simp [intOf]; omega
    · obtain rfl : k = sg.length := by omega
      have HO : Hid (sg.all segOk = true) := Lib.hid (by have := HA.out; rwa [List.take_length] at this)
      obtain ⟨nn, hnn⟩ : ∃ nn, sg.length = nn + 1 := ⟨sg.length - 1, by omega⟩
      have hck : wr.cell? ⟨g, nn, none⟩ = some (.string lb) := by
        have e : sg[nn]? = some lb := by rw [← HLB.out, hnn]; rfl
        obtain ⟨h5, h6⟩ := List.getElem?_eq_some_iff.1 e
        rw [(hbr.out.cell (p := ⟨g, nn, none⟩) hg.2).trans (H1.out nn h5), h6]
      have HX := Lib.hid (H2.out _ HM.out)
      have HQ : Hid (pathOk s = (decide (2 ≤ nn + 1) && verOk lb)) := Lib.hid (by rw [HP.out, HD2.out, HO.out, hnn]; simp)
      have HBL2 : Hid (Below w.heap.size w wr) := Lib.hid (hbl.trans (hbr.out.mono hbl.size))
      have q1 : wrap64 (nn : Int) = nn := by unfold wrap64; omega
      rw [hnn] at *
      have HMJ := Lib.hid (rmajor_any lb wr (by have := HX.out; omega))
      cases h5 : verOk lb
      · have HT : Hid (pathOk s = false) := Lib.hid (by rw [HQ.out, h5, Bool.and_false])
        have HZ := Lib.hid (majZ_no h5)
        go_wp2_with fail
        refine HMJ.out.mono ?_
        rintro e w2 ⟨rfl, rfl⟩
        rw [HZ.out]
        by_cases h6 : (nn : Int) + 1 < 2
        all_goals
          go_wp2
          go_ret2
          exact ⟨ret_ii (by rw [HN.out, HT.out]; rfl) (by rw [HE.out, HT.out]; rfl), HBL2.out⟩
      · have hz := majZ_yes h5
        have HZ := Lib.hid hz.1
        have hz2 := hz.2
        obtain ⟨vn, hvn⟩ : ∃ vn, verN lb = vn := ⟨_, rfl⟩
        rw [hvn] at hz2
        have HVN := Lib.hid hvn
        clear hz hvn
        by_cases h6 : (nn : Int) + 1 < 2
        · have HT : Hid (pathOk s = false) := Lib.hid (by rw [HQ.out, decide_eq_false (by omega)]; rfl)
          go_wp2_with fail
          refine HMJ.out.mono ?_
          rintro e w2 ⟨rfl, rfl⟩
          rw [HZ.out, HVN.out]
          go_wp2
          go_ret2
          exact ⟨ret_ii (by rw [HN.out, HT.out]; rfl) (by rw [HE.out, HT.out]; rfl), HBL2.out⟩
        · have HT : Hid (pathOk s = true) := Lib.hid (by rw [HQ.out, h5, decide_eq_true (by omega)]; rfl)
          have h7 : ¬ vn < 0 := by omega
          go_wp2_with fail
          refine HMJ.out.mono ?_
          rintro e w2 ⟨rfl, rfl⟩
          rw [HZ.out, HVN.out]
          go_wp2
          go_ret2
          exact ⟨ret_ii (by rw [HN.out, HT.out, if_pos rfl, HVN.out]) (by rw [HE.out, HT.out]; rfl), HBL2.out⟩

set_option maxHeartbeats 400000 in
theorem rIsPath_any (s : ByteArray) (w : World) :
    Calls Tryz.prog 182 #[.string s] w fun e w' => e = .returned (.bool (pathOk s)) ∧ Below w.heap.size w w' := by
  have HE : Hid (majE s = if pathOk s then 0 else 4) := Lib.hid rfl
  cases h : pathOk s
  all_goals
    rw [h] at HE
    simp only [Bool.false_eq_true, if_false, if_true] at HE
    go_enter Tryz.func182, Tryz.ntmps182
    go_wp2_with fail
    refine (rMajor_any s w).mono ?_
    rintro e w' ⟨rfl, hb⟩
    rw [HE.out]
    go_wp2
    go_ret
    exact ⟨rfl, hb⟩
end Go.Proofs.YtenfkejbndifdaaGreatDoor

namespace Go.Proofs.YtenfkejbndifdaaGreatDoor
open Go Go.RowKit

set_option maxRecDepth 100000 in
set_option maxHeartbeats 4000000 in
theorem rLine_any (s : ByteArray) (w : World) (hs : s.size ≤ 1000000) : Calls Tryz.prog 152 #[.string s] w fun e w' =>
    e = .returned (.tuple #[.string (lineV s).1, .int .i64 (lineV s).2.1, .int .i64 (lineV s).2.2]) ∧ Below w.heap.size w w' := by
  have HIP := Lib.hid (fun W => rIsPath_any s W)
  have HMJ := Lib.hid (fun W => rMajor_any s W)
  cases hp : pathOk s with
  | false =>
    have HE := Lib.hid (show lineV s = (⟨#[]⟩, 0, 4) by unfold lineV; rw [hp]; rfl)
    rw [HE.out]
    rw [hp] at HIP
    clear hp
    go_enter Tryz.func152, Tryz.ntmps152
    go_wp2_with fail
    (with_reducible refine (HIP.out _).mono ?_)
    rintro e w1 ⟨rfl, hb1⟩
    have HB1 := Lib.hid hb1
    clear hb1
    go_wp2_with fail
    go_ret3
    exact ⟨rfl, HB1.out⟩
  | true =>
    obtain ⟨i, hi1, hi2, hi3, hi4⟩ := slash_path s hp
    obtain ⟨hd, hhd⟩ : ∃ hd, s.extract 0 i = hd := ⟨_, rfl⟩
    have HE := Lib.hid (show lineV s = (hd, majN s, 0) by unfold lineV; rw [hp, hi1, ← hhd]; rfl)
    rw [show majE s = 0 by unfold majE; rw [hp]; rfl] at HMJ
    rw [HE.out]
    rw [hp] at HIP
    have HH := Lib.hid hhd
    have hget : ∀ j (hj : j < s.size), s.data.toList[j]? = some s[j] := fun j hj => by
      have : j < s.data.toList.length := by rw [← Lib.size_eq]; exact hj
      rw [List.getElem?_eq_getElem this]; simp; rfl
    have HI := Lib.hid (show ((s[i]).toNat : Int) = 47 by
      rw [hget i hi2] at hi3
      rw [Option.some.inj hi3]; rfl)
    have HJ := Lib.hid (show ∀ j (hj : j < s.size), i < j → ¬ ((s[j]).toNat : Int) = 47 from fun j hj hij h => hi4 j hij (by
      rw [hget j hj]
      have : s[j] = 47 := UInt8.toNat_inj.1 (by have : (47 : UInt8).toNat = 47 := rfl; omega)
      rw [this]))
    have HI2 := Lib.hid hi2
    have hsz : (1 : Int) ≤ s.size := by omega
    have hsz2 : (s.size : Int) ≤ 1000000 := by omega
    obtain ⟨mj, hmj⟩ : ∃ mj, majN s = mj := ⟨_, rfl⟩
    rw [hmj] at HMJ ⊢
    clear hp hi1 hi3 hi4 hhd hget hmj
    go_enter Tryz.func152, Tryz.ntmps152
    go_wp2_with fail
    (with_reducible refine (HIP.out _).mono ?_)
    rintro e w1 ⟨rfl, hb1⟩
    have HB1 := Lib.hid hb1
    clear hb1
    go_wp2_with fail
    (with_reducible refine (HMJ.out _).mono ?_)
    rintro e w2 ⟨rfl, hb2⟩
    have HB2 : Hid (Below w.heap.size w w2) := Lib.hid (HB1.out.trans (hb2.mono HB1.out.size))
    clear hb2
    go_wp2_with fail
    go_loop [7] (fun e => ∃ k : Nat, i ≤ k ∧ k < s.size ∧ e = .int .i64 k) (fun e => (intOf e).toNat)
    case atStart => exact ⟨s.size - 1, by have := HI2.out; omega, by have := HI2.out; omega, by have := HI2.out; congr 1; omega⟩
    case round =>
      obtain ⟨k, hk1, hk2, rfl⟩ := hrel
      have hk0 : (0 : Int) ≤ (k : Int) := by omega
      have hk3 : (k : Int) < (s.size : Int) := by omega
      by_cases hik : i = k
      · subst hik
        have h47 : ((((s[i]).toNat : Int)) != 47) = false := by rw [HI.out]; rfl
        have g1 : (0 : Int) ≤ (i : Int) := by omega
        have g2 : (i : Int) ≤ s.size := by omega
        have g3 : i ≤ s.size := by omega
        go_wp2_with fail
        go_ret3
        exact ⟨by rw [← HH.out]; rfl, HB2.out⟩
      · have h47 : ((((s[k]).toNat : Int)) != 47) = true := by
          have := HJ.out k hk2 (by omega)
          simpa using this
        have hk4 : (1 : Int) ≤ (k : Int) := by omega
        go_wp2_with fail
        go_round
        case rel => exact ⟨k - 1, by omega, by omega, by congr 1; omega⟩
        case measure => simp [intOf]; omega
end Go.Proofs.YtenfkejbndifdaaGreatDoor
