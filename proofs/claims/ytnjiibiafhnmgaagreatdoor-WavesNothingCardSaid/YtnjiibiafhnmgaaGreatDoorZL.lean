/- Contracts of package waves: named. -/
import Derived.Test.YtnjiibiafhnmgaaGreatDoorZK
namespace Go.Proofs.YtnjiibiafhnmgaaGreatDoor
open Go Go.RowKit Go.Maps

structure NamJ (B : Nat) (v : Value) (LL : List (List ByteArray)) (xs : List Value) (W : World) : Prop where
  own : W.ownsRow B 29 1 v LL.length xs
  row : ∀ (i : Nat) (l : List ByteArray), LL[i]? = some l → ∃ r, xs[i]? = some r ∧ W.ownsRow B 9 1 r l.length (strsC l)
section
variable {B : Nat} {v : Value} {LL : List (List ByteArray)} {xs : List Value} {W W' : World}
theorem NamJ.below (h : NamJ B v LL xs W) (hb : Below W.heap.size W W') : NamJ B v LL xs W' :=
  ⟨own_on h.own hb, fun i l hl => by obtain ⟨r, h1, h2⟩ := h.row i l hl; exact ⟨r, h1, own_on h2 hb⟩⟩
theorem NamJ.nil (B : Nat) (W : World) : NamJ B (.slice none 0 0) [] [] W := ⟨World.ownsRow_nil _ _ _ _, fun i l hl => by cases hl⟩
theorem NamJ.len (h : NamJ B v LL xs W) : xs.length = LL.length := by have := h.own.1; omega
theorem NamJ.push {W6 : World} {v' r : Value} {l : List ByteArray} (h : NamJ B v LL xs W) (hr : W.ownsRow B 9 1 r l.length (strsC l)) (hown : W6.ownsRow B 29 1 v' (LL.length + 1) (xs ++ [r])) (hg : W.grownBy W6 v.ownBlock) : NamJ B v' (LL ++ [l]) (xs ++ [r]) W6 := by
  have hl := h.len
  refine ⟨by rw [List.length_append]; exact hown, fun i l2 hl2 => ?_⟩
  by_cases hi : i < LL.length
  · rw [List.getElem?_append_left hi] at hl2
    obtain ⟨r2, h1, h2⟩ := h.row i l2 hl2
    exact ⟨r2, by rw [List.getElem?_append_left (by omega)]; exact h1, h2.kept hg (own_apart h2 h.own (by decide))⟩
  · rw [List.getElem?_append_right (by omega)] at hl2
    have h0 := (List.getElem?_eq_some_iff.1 hl2).1
    simp only [List.length_singleton] at h0
    have hie : i = LL.length := by omega
    subst hie
    simp only [Nat.sub_self, List.getElem?_cons_zero, Option.some.injEq] at hl2
    subst hl2
    exact ⟨r, by rw [List.getElem?_append_right (by omega), hl]; simp, hr.kept hg (own_apart hr h.own (by decide))⟩
end
def NamesOf (B : Nat) (v : Value) (LL : List (List ByteArray)) (W : World) : Prop := ∃ ao cap, v = .slice ao LL.length cap ∧ ∀ (i : Nat) (l : List ByteArray), LL[i]? = some l → ∃ b off r, ao = some ⟨b, off, none⟩ ∧ b < B ∧ W.cell? ⟨b, off + i, none⟩ = some r ∧ RowOf Value.string B r l W
theorem NamJ.names {B : Nat} {v : Value} {LL : List (List ByteArray)} {xs : List Value} {W : World} (h : NamJ B v LL xs W) : NamesOf W.heap.size v LL W := by
  obtain ⟨hl, h2⟩ := h.own
  have hn : NamesOf W.heap.size v LL W ∨ LL.length = 0 := by
    rcases h2 with ⟨rfl, h0⟩ | ⟨g, cap, cur, rfl, h1, h2, h3, h4, h5, h6⟩
    · exact .inr h0
    · left
      refine ⟨_, cap, rfl, fun i l hl2 => ?_⟩
      obtain ⟨r, e, ho⟩ := h.row i l hl2
      refine ⟨g, 0, r, rfl, (Array.getElem?_eq_some_iff.1 h2).1, ?_, (own_row ho).2⟩
      have hi := (List.getElem?_eq_some_iff.1 e).1
      rw [Nat.zero_add, cell_of_row _ _ _ _ _ _ h2, ← e, ← h6, List.getElem?_take, if_pos (by omega)]
      simp
  rcases hn with h | h0
  · exact h
  · have hv := own_any h.own
    obtain ⟨a, c, rfl⟩ := hv
    exact ⟨a, c, rfl, fun i l hl2 => by have := (List.getElem?_eq_some_iff.1 hl2).1; omega⟩
def rowN (P : List ByteArray) (row : List Nat) : List ByteArray := row.map fun n => P.getD n default
theorem nameL_take {P : List ByteArray} {L : List (List Nat)} {k : Nat} (hk : k < L.length) : nameL P (L.take (k + 1)) = nameL P (L.take k) ++ [rowN P L[k]] := by
  unfold nameL
  rw [List.take_succ_eq_append_getElem hk, List.map_append]
  rfl
theorem rowN_take {P : List ByteArray} {L : List Nat} {k : Nat} (hk : k < L.length) : rowN P (L.take (k + 1)) = rowN P (L.take k) ++ [P.getD L[k] default] := by
  unfold rowN
  rw [List.take_succ_eq_append_getElem hk, List.map_append]
  rfl
theorem info_rowW : (Tryz.prog.info? 29).map (fun i => (i.zero, i.size, i.bytes)) = some (some (Value.slice none 0 0), 1, 24) := by kernel_rfl
theorem len_rows (a : Option Addr) (n c : Nat) (W : World) : (Builtin.len_ #[87] 3 #[.slice a n c]).run Tryz.prog W = .ok (.int .i64 (n : Int)) W := by
  simp [Builtin.len_, run_underlying Tryz.underlying87, goInt, Result.andThen]
def NamedR (w : World) (LL : List (List ByteArray)) (E : Int) (e : Ending) (w' : World) : Prop := ∃ v, e = .returned (.tuple #[v, .int .i64 E]) ∧ NamesOf w'.heap.size v LL w' ∧ Below w.heap.size w w'
set_option maxRecDepth 100000 in
set_option maxHeartbeats 16000000 in
theorem named_any (gf : Nat) (eg : ∀ args w, (callFunc gf args).run Tryz.prog w = .ok (.enter gf args) w) (v iv fv tv : Value) (X : List RelL) (f t : List SelL) (w : World)
    (hGR : ∀ W, Below w.heap.size w W → Calls Tryz.prog 12 #[.agg #[v, iv], fv, tv] W (GraphR W (graphV X f t)))
    (hv : ∃ a n c, v = .slice a n c) (hfv : ∃ a n c, fv = .slice a n c) (htv : ∃ a n c, tv = .slice a n c) (P : List ByteArray) (hP : movesP f t = P) (S : List (List Nat)) (hS : errW X f t = 0 → ∀ l ∈ S, ∀ n ∈ l, n < P.length)
    (hSl : errW X f t = 0 → S.length ≤ 1000000 ∧ ∀ l ∈ S, l.length ≤ 1000000)
    (hC : errW X f t = 0 → ∀ W nv ev, RowOf Value.string W.heap.size nv P W → EdgesOf W.heap.size ev (wavE X f t) W → Calls Tryz.prog gf #[.agg #[nv, ev]] W fun e w' => ∃ v, e = .returned v ∧ RowsOf w'.heap.size v S w' ∧ Below W.heap.size W w') :
    Calls Tryz.prog 46 #[.agg #[v, iv], fv, tv, .func (.func gf) #[] #[]] w (NamedR w (if errW X f t = 0 then nameL P S else []) (errW X f t)) := by
  obtain ⟨va, vn, vc, rfl⟩ := hv
  obtain ⟨fa, fn, fc, rfl⟩ := hfv
  obtain ⟨ta, tn, tc, rfl⟩ := htv
  have HGR := Lib.hid hGR
  have HC := Lib.hid hC
  have HS := Lib.hid hS
  have HSL := Lib.hid hSl
  clear hGR hC hS hSl
  have HG0 : Hid (errW X f t = 0 → graphV X f t = ((P, wavE X f t), 0)) := Lib.hid (fun h => by unfold graphV; rw [h, if_pos rfl, hP])
  have HG1 : Hid (errW X f t ≠ 0 → graphV X f t = (([], []), errW X f t)) := Lib.hid (fun h => by unfold graphV; rw [if_neg h])
  clear hP
  obtain ⟨E, hE⟩ : ∃ E, errW X f t = E := ⟨_, rfl⟩
  rw [hE] at HG0 HG1 HC HS HSL ⊢
  clear hE
  generalize graphV X f t = G at *
  generalize wavE X f t = es at *
  obtain ⟨LL, hLL⟩ : ∃ LL, (if E = 0 then nameL P S else []) = LL := ⟨_, rfl⟩
  have HLL := Lib.hid hLL
  rw [hLL]
  clear hLL
  have HB0 := Lib.hid (IdxBx.start w (.slice va vn vc) iv)
  go_enter Tryz.func46, Tryz.ntmps46
  go_upto_region 1 with fail
  generalize w.alloc (.cells #[.slice va vn vc, iv] 25) = W at *
  have c0 := HB0.out.c0
  have c1 := HB0.out.c1
  go_wp2_with fail
  refine (HGR.out _ HB0.out.bel).mono ?_
  rintro e w1 ⟨nv, ev, rfl, hrn, hre, hb1⟩
  have HB1 := Lib.hid (HB0.out.below hb1)
  clear c0 c1 HGR HB0
  by_cases h0 : E = 0
  case neg =>
    have h0b : (E != 0) = true := by simpa using h0
    have hG := HG1.out h0
    subst hG
    obtain ⟨na, nc, rfl, _⟩ := rowOf_open hrn
    obtain ⟨ea, ec, rfl⟩ : ∃ a c, ev = .slice a 0 c := by obtain ⟨a, c, e, _⟩ := hre; exact ⟨a, c, e⟩
    have HR : Hid (∀ W2, Below w1.heap.size w1 W2 → NamedR w LL E (.returned (.tuple #[.slice none 0 0, .int .i64 E])) W2) := Lib.hid (fun W2 h2 => by
      refine ⟨_, rfl, ?_, HB1.out.bel.trans (h2.mono HB1.out.bel.size)⟩
      rw [← HLL.out, if_neg h0]
      exact ⟨none, 0, rfl, fun i l hl => by cases hl⟩)
    clear hrn hre hb1 HLL HC HS HSL HG0 HG1 HB1
    go_wp2_with fail
    go_ret2
    exact HR.out _ (belQ _ _)
  subst h0
  have hG := HG0.out rfl
  subst hG
  simp only at hrn hre
  have HRN := Lib.hid hrn
  obtain ⟨na, nc, rfl, hna⟩ := rowOf_open hrn
  obtain ⟨ea, ec, rfl⟩ : ∃ a c, ev = .slice a es.length c := by obtain ⟨a, c, e, _⟩ := hre; exact ⟨a, c, e⟩
  have hq2 := belQ w1 (.cells #[.slice na P.length nc, .slice ea es.length ec] 32)
  have HN2 := Lib.hid (World.alloc_heap_new w1 (.cells #[.slice na P.length nc, .slice ea es.length ec] 32))
  have HCC := Lib.hid (HC.out rfl _ _ _ ((hrn.below hq2 (Nat.le_refl _)).mono hq2.size) ((hre.below hq2 (Nat.le_refl _)).mono hq2.size))
  have HB2 := Lib.hid (HB1.out.bel.trans (hq2.mono HB1.out.bel.size))
  have HNA : Hid (∀ W2, Below w1.heap.size w1 W2 → ∀ i x, P[i]? = some x → ∃ b off, na = some ⟨b, off, none⟩ ∧ W2.cell? ⟨b, off + i, none⟩ = some (.string x)) := Lib.hid (fun W2 h2 i x hx => by
    obtain ⟨b, off, h1, h3, h4⟩ := hna i x hx
    exact ⟨b, off, h1, (h2.cell (p := ⟨b, off + i, none⟩) h3).trans h4⟩)
  have HSS := Lib.hid (HS.out rfl)
  have HSLL := Lib.hid (HSL.out rfl)
  have HLE : Hid (nameL P S = LL) := Lib.hid (by rw [← HLL.out, if_pos rfl])
  have HQ2 := Lib.hid hq2
  clear hrn hre hb1 hna hq2 HC HS HSL HLL HG0 HG1 HB1 HRN
  go_upto_region 2 with fail
  generalize w1.alloc (.cells #[.slice na P.length nc, .slice ea es.length ec] 32) = w2 at *
  have g0 : w2.cell? ⟨w1.heap.size, 0, none⟩ = some (.slice na P.length nc) := cell_of_row _ _ 0 _ _ _ HN2.out
  have g1 : w2.cell? ⟨w1.heap.size, 1, none⟩ = some (.slice ea es.length ec) := cell_of_row _ _ 1 _ _ _ HN2.out
  go_wp2_with (go_at_fn gf; refine HCC.out.mono ?_; rintro e w3 ⟨sv, rfl, hsv, hb3⟩)
  have HSV := Lib.hid hsv
  have HB3 := Lib.hid (HB2.out.trans (hb3.mono HB2.out.size))
  have HQ3 := Lib.hid (HQ2.out.trans (hb3.mono HQ2.out.size))
  have hgl : w1.heap.size < w2.heap.size := (Array.getElem?_eq_some_iff.1 HN2.out).1
  have HN3 := Lib.hid ((hb3.block _ hgl).trans HN2.out)
  obtain ⟨sa, sc, rfl, hrow⟩ : ∃ sa sc, sv = .slice sa S.length sc ∧ ∀ i l, S[i]? = some l → ∃ b off r, sa = some ⟨b, off, none⟩ ∧ b < w3.heap.size ∧ w3.cell? ⟨b, off + i, none⟩ = some r ∧ RowOf natC w3.heap.size r l w3 := by
    rcases hsv with ⟨rfl, a, c, rfl⟩ | ⟨b, off, cap, rfl, hb, h⟩
    · exact ⟨a, c, rfl, fun i l hl => by cases hl⟩
    · exact ⟨_, cap, rfl, fun i l hl => by obtain ⟨r, h1, h2⟩ := h i l hl; exact ⟨b, off, r, rfl, hb, h1, h2⟩⟩
  have HROW := Lib.hid hrow
  have HGL := Lib.hid (Nat.lt_of_lt_of_le hgl hb3.size)
  clear hsv hb3 hgl hrow g0 g1 HCC HSV HB2 HQ2 HN2
  obtain ⟨gg, hgg⟩ : ∃ gg, w1.heap.size = gg := ⟨_, rfl⟩
  rw [hgg] at HN3 HGL
  have HGG := Lib.hid hgg
  simp only [hgg]
  clear hgg
  obtain ⟨i0, hi0, hz0, hz1, hz2⟩ := info_parts info_strW
  obtain ⟨r0, hr0, hy0, hy1, hy2⟩ := info_parts info_rowW
  have hln := len_rows sa S.length sc w3
  go_wp2_with fail
  rw [hln]
  clear hln
  go_wp2_with fail
  go_loopw [12, 32] (fun ov p wr => Hid (∃ (k : Nat) (xs : List Value), k ≤ S.length ∧ p = .int .i64 (k : Int) ∧ NamJ w3.heap.size ov (nameL P (S.take k)) xs wr ∧ Below w3.heap.size w3 wr)) (fun _ p _ => S.length - (intOf p).toNat)
  case atStart => exact Lib.hid ⟨0, [], Nat.zero_le _, rfl, NamJ.nil _ _, Below.refl _ _⟩
  case round =>
    obtain ⟨k, xs, hk, rfl, hj, hb⟩ := hrel.out
    have HJ := Lib.hid hj
    have HB := Lib.hid hb
    have hnl : (nameL P (S.take k)).length = k := by unfold nameL; rw [List.length_map, List.length_take]; omega
    obtain ⟨oa, oc, he⟩ := own_any hj.own
    rw [hnl] at he
    subst he
    clear hrel hj hb
    by_cases hlt : k < S.length
    case neg =>
      have hkk : k = S.length := Nat.le_antisymm hk (Nat.le_of_not_lt hlt)
      clear hk hnl
      subst hkk
      have HR : Hid (NamedR w LL 0 (.returned (.tuple #[.slice oa S.length oc, .int .i64 0])) wr) := Lib.hid (by
        have hj := HJ.out
        rw [List.take_length, HLE.out] at hj
        exact ⟨_, rfl, hj.names, HB3.out.trans (HB.out.mono HB3.out.size)⟩)
      clear HJ
      go_wp2_with fail
      go_ret2
      exact HR.out
    case pos =>
      have hk0 : (0 : Int) ≤ (k : Int) := Int.natCast_nonneg k
      have hkz : (k : Int) < (S.length : Int) := Int.ofNat_lt.2 hlt
      obtain ⟨b, off, rv, rfl, hbl, d0, hrr⟩ := HROW.out k _ (List.getElem?_eq_getElem hlt)
      have d0 := (HB.out.cell (p := ⟨b, off + k, none⟩) hbl).trans d0
      have HTK := Lib.hid (nameL_take (P := P) hlt)
      have hsm : S[k] ∈ S := List.getElem_mem hlt
      have HLT := Lib.hid (HSS.out _ hsm)
      have hrl := HSLL.out.2 _ hsm
      have hkl : k + 1 ≤ 1000000 := Nat.le_trans hlt HSLL.out.1
      clear hsm
      generalize S[k] = row at *
      obtain ⟨ra, rc, rfl, hra⟩ := rowOf_open hrr
      have HRA : Hid (∀ W2, Below w3.heap.size w3 W2 → ∀ i x, row[i]? = some x → ∃ b off, ra = some ⟨b, off, none⟩ ∧ W2.cell? ⟨b, off + i, none⟩ = some (natC x)) := Lib.hid (fun W2 h2 i x hx => by
        obtain ⟨b, off, h1, h3, h4⟩ := hra i x hx
        exact ⟨b, off, h1, (h2.cell (p := ⟨b, off + i, none⟩) h3).trans h4⟩)
      clear hra hrr
      go_upto_region 10 with fail
      clear d0
      obtain ⟨wb, hwb⟩ : ∃ wb, wr = wb := ⟨_, rfl⟩
      replace hwb := hwb.symm
      subst hwb
      go_wp2_with fail
      go_loopw [15, 38] (fun ov2 p wr => Hid (∃ (j : Nat), j ≤ row.length ∧ p = .int .i64 (j : Int) ∧ wr.ownsRow wb.heap.size 9 1 ov2 j (strsC (rowN P (row.take j))) ∧ Below wb.heap.size wb wr)) (fun _ p _ => row.length - (intOf p).toNat)
      case atStart => exact Lib.hid ⟨0, Nat.zero_le _, rfl, by simpa [strsC, rowN] using World.ownsRow_nil _ _ _ _, Below.refl _ _⟩
      case round =>
        obtain ⟨j, hj, rfl, ho, hb2⟩ := hrel.out
        have HO := Lib.hid ho
        have HB2 := Lib.hid hb2
        obtain ⟨ja, jc, rfl⟩ := own_any ho
        clear hrel ho hb2
        have HB32 := Lib.hid (HB.out.trans (HB2.out.mono HB.out.size))
        by_cases hlt2 : j < row.length
        case neg =>
          have hjj : j = row.length := Nat.le_antisymm hj (Nat.le_of_not_lt hlt2)
          clear hj
          subst hjj
          have HJ2 := Lib.hid (HJ.out.below HB2.out)
          have hrn : (rowN P row).length = row.length := by unfold rowN; rw [List.length_map]
          have hs2 : w3.heap.size ≤ wb.heap.size := HB.out.size
          have hbq := belQ wr (.cells #[.slice ja row.length jc] 29)
          have HR2 : Hid ((wr.alloc (.cells #[.slice ja row.length jc] 29)).ownsRow w3.heap.size 9 1 (.slice ja row.length jc) (rowN P row).length (strsC (rowN P row))) := Lib.hid (by
            have h := HO.out
            rw [List.take_length] at h
            rw [hrn]
            exact (own_on h hbq).mono hs2)
          have HJ3 := Lib.hid (HJ2.out.below hbq)
          have HOW3 : Hid ((wr.alloc (.cells #[.slice ja row.length jc] 29)).ownsRow w3.heap.size 29 1 (.slice oa k oc) k xs) := Lib.hid (by have h := HJ3.out.own; rwa [hnl] at h)
          have HN4 := Lib.hid (World.alloc_heap_new wr (.cells #[.slice ja row.length jc] 29))
          have HB4 := Lib.hid (HB32.out.trans (hbq.mono HB32.out.size))
          have hsz4 : w3.heap.size ≤ (wr.alloc (.cells #[.slice ja row.length jc] 29)).heap.size := HB4.out.size
          have HNL := Lib.hid hnl
          clear hbq HO HJ HJ2 hrn hs2 hnl
          go_wp2_with (at_builtin; refine wpList_append_own _ rfl _ _ 36 rfl w3.heap.size 29 r0 _ 1 24 Tryz.underlying36 hr0 hy0 hy1 hy2 rfl (by decide) (.slice oa k oc) k _ (by rfl) HOW3.out ⟨wr.heap.size, 0, none⟩ 1 1 [.slice ja row.length jc] (by rfl) (by rfl) (World.news_of_block HN4.out) (by simp [Value.oneCell']) (by unfold maxLen; omega) (by omega) hsz4 ?_; intro v' wB hown' hgrow _; have HOW := Lib.hid hown'; have HGR := Lib.hid hgrow; clear hown' hgrow; obtain ⟨g3, gc3, rfl⟩ := ownsRow_succ HOW.out)
          all_goals
            have HJ5 : Hid (NamJ w3.heap.size (.slice (some ⟨g3, 0, none⟩) (k + 1) gc3) (nameL P (S.take (k + 1))) (xs ++ [.slice ja row.length jc]) wB) := Lib.hid (by
              rw [HTK.out]
              exact HJ3.out.push HR2.out (by rw [HNL.out]; exact HOW.out) HGR.out)
            have HB5 := Lib.hid (HB4.out.grown HGR.out hsz4 (fun b hb => (own_lo HOW3.out b hb).1))
            refine ⟨Lib.hid ⟨k + 1, _, hlt, by go_num, HJ5.out, HB5.out⟩, ?_⟩
            simp [intOf]; omega
        case pos =>
          have hj0 : (0 : Int) ≤ (j : Int) := Int.natCast_nonneg j
          have hjz : (j : Int) < (row.length : Int) := Int.ofNat_lt.2 hlt2
          obtain ⟨b2, off2, rfl, d1⟩ := HRA.out wr HB32.out j _ (List.getElem?_eq_getElem hlt2)
          have HRT := Lib.hid (rowN_take (P := P) hlt2)
          have hnp := HLT.out _ (List.getElem_mem hlt2)
          generalize row[j] = n at *
          obtain ⟨b3, off3, rfl, d2⟩ := HNA.out wr (HQ3.out.trans (HB32.out.mono HQ3.out.size)) n _ (List.getElem?_eq_getElem hnp)
          have HPN : Hid (P.getD n default = P[n]) := Lib.hid (by rw [List.getD_eq_getElem?_getD, List.getElem?_eq_getElem hnp]; rfl)
          have hn0 : (0 : Int) ≤ (n : Int) := Int.natCast_nonneg n
          have hnz : (n : Int) < (P.length : Int) := Int.ofNat_lt.2 hnp
          have g0 : wr.cell? ⟨gg, 0, none⟩ = some (.slice (some ⟨b3, off3, none⟩) P.length nc) := (HB32.out.cell (p := ⟨gg, 0, none⟩) HGL.out).trans (cell_of_row _ _ 0 _ _ _ HN3.out)
          generalize P[n] = p at *
          have hbq := belQ wr (.cells #[.string p] 9)
          have HN4 := Lib.hid (World.alloc_heap_new wr (.cells #[.string p] 9))
          have HO4 := Lib.hid (own_on HO.out hbq)
          have HB4 := Lib.hid (HB2.out.trans (hbq.mono HB2.out.size))
          have hsz4 : wb.heap.size ≤ (wr.alloc (.cells #[.string p] 9)).heap.size := HB4.out.size
          have HST : Hid (strsC (rowN P (row.take (j + 1))) = strsC (rowN P (row.take j)) ++ [.string p]) := Lib.hid (by rw [HRT.out, HPN.out, strsC_snoc])
          clear hbq HO HB2 HB32
          go_wp2_with (at_builtin; refine wpList_append_own _ rfl _ _ 29 rfl wb.heap.size 9 i0 _ 1 16 Tryz.underlying29 hi0 hz0 hz1 hz2 rfl (by decide) (.slice ja j jc) j _ (by rfl) HO4.out ⟨wr.heap.size, 0, none⟩ 1 1 [.string p] (by rfl) (by rfl) (World.news_of_block HN4.out) (by simp [Value.oneCell']) (by unfold maxLen; omega) (by omega) hsz4 ?_; intro v' wB hown' hgrow _; have HOW := Lib.hid hown'; have HGR := Lib.hid hgrow; clear hown' hgrow; obtain ⟨g3, gc3, rfl⟩ := ownsRow_succ HOW.out)
          all_goals
            have HB5 := Lib.hid (HB4.out.grown HGR.out hsz4 (fun b hb => (own_lo HO4.out b hb).1))
            refine ⟨Lib.hid ⟨j + 1, hlt2, by go_num, by rw [HST.out]; exact HOW.out, HB5.out⟩, ?_⟩
            simp [intOf]; omega
end Go.Proofs.YtnjiibiafhnmgaaGreatDoor
