/- The law GraphConverse returns true. -/
import Derived.Test.YtlcgbkeggmaljaaGReach1
import Derived.Test.YtlcgbkeggmaljaaPK
namespace Go.Proofs.Ytlcgbkeggmaljaa
set_option linter.unusedVariables false
set_option linter.unusedSimpArgs false
open Go Go.RowKit

/-- all but one block is as it was. -/
structure Kept1 (g : Nat) (A B : World) : Prop where
  bel : Below g A B
  size : B.heap.size = A.heap.size
  blk : ∀ b, b ≠ g → B.heap[b]? = A.heap[b]?
theorem Kept1.refl (g : Nat) (A : World) : Kept1 g A A := ⟨Below.refl _ _, rfl, fun _ _ => rfl⟩
theorem Kept1.set {g : Nat} {A B : World} (h : Kept1 g A B) (i : Nat) (v : Value) : Kept1 g A (B.setCell ⟨g, i, none⟩ v) :=
  ⟨h.bel.setCell (by exact Nat.le_refl _) _, (World.size_setCell _ _ _).trans h.size, fun b hb => (heap_setCell_other _ _ _ _ (by exact hb)).trans (h.blk b hb)⟩
theorem Kept1.cell {g : Nat} {A B : World} (h : Kept1 g A B) {b i : Nat} (hb : b ≠ g) : B.cell? ⟨b, i, none⟩ = A.cell? ⟨b, i, none⟩ := World.cell?_of_block (a := ⟨b, i, none⟩) (h.blk b hb)
/-- the levels that have been written down. -/
def LvA (N : Nat) (es : List (Int × Int)) (lv : Nat → Nat) (i : Nat) (done : List Nat) (d : List Int) : Prop := d.length = N ∧ ∀ n, n < N → gD d n = if lv (clG N es n) < i ∨ n ∈ done then ((lv (clG N es n) + 1 : Nat) : Int) else 0
theorem LvA.start (N : Nat) (es : List (Int × Int)) (lv : Nat → Nat) : LvA N es lv 0 [] (List.replicate N 0) := by
  refine ⟨by simp, fun n hn => ?_⟩
  rw [if_neg (by simp)]
  unfold gD
  rw [List.getD_eq_getElem?_getD, List.getElem?_replicate, if_pos hn]
  rfl
theorem LvA.set {N : Nat} {es : List (Int × Int)} {lv : Nat → Nat} {i : Nat} {done : List Nat} {d : List Int} (h : LvA N es lv i done d) {n : Nat} (hn : n < N) (hl : lv (clG N es n) = i) : LvA N es lv i (done ++ [n]) (d.set n ((i : Int) + 1)) := by
  refine ⟨by rw [List.length_set]; exact h.1, fun m hm => ?_⟩
  rw [gD_set _ _ _ _ (by rw [h.1]; exact hn)]
  by_cases e : m = n
  · subst e
    rw [if_pos rfl, if_pos (.inr (by simp)), hl]
    omega
  · rw [if_neg e, h.2 m hm]
    by_cases hc : lv (clG N es m) < i ∨ m ∈ done
    · rw [if_pos hc, if_pos (hc.imp id fun h => by simp [h])]
    · rw [if_neg hc, if_neg (fun h => hc (h.imp id fun h => by
        rcases List.mem_append.1 h with h | h
        · exact h
        · exact absurd (List.mem_singleton.1 h) e))]
theorem LvA.next {N : Nat} {es : List (Int × Int)} {lv : Nat → Nat} {i : Nat} {row : List Nat} {d : List Int} (h : LvA N es lv i row d) (hr : ∀ n, n ∈ row ↔ n < N ∧ lv (clG N es n) = i) : LvA N es lv (i + 1) [] d := by
  refine ⟨h.1, fun n hn => ?_⟩
  rw [h.2 n hn]
  have : (lv (clG N es n) < i ∨ n ∈ row) ↔ (lv (clG N es n) < i + 1 ∨ n ∈ ([] : List Nat)) := by
    rw [hr]
    constructor
    · rintro (h | ⟨_, h⟩) <;> exact .inl (by omega)
    · rintro (h | h)
      · by_cases e : lv (clG N es n) < i
        · exact .inl e
        · exact .inr ⟨hn, by omega⟩
      · simp at h
  by_cases hc : lv (clG N es n) < i ∨ n ∈ row
  · rw [if_pos hc, if_pos (this.1 hc)]
  · rw [if_neg hc, if_neg (fun h => hc (this.2 h))]
theorem LvA.zero {N : Nat} {es : List (Int × Int)} {lv : Nat → Nat} {i m n : Nat} {row : List Nat} {d : List Int} (ht : LvA N es lv i (row.take m) d) (hm : row[m]? = some n) (hs : row.Pairwise (· < ·)) (hn : n < N) (hl : lv (clG N es n) = i) : gD d n = 0 := by
  rw [ht.2 n hn, if_neg]
  rintro (h | h)
  · omega
  · obtain ⟨j, hj⟩ := List.mem_iff_getElem?.1 h
    have hjm : j < m := by have := (List.getElem?_eq_some_iff.1 hj).1; rw [List.length_take] at this; omega
    rw [List.getElem?_take, if_pos hjm] at hj
    obtain ⟨h1l, h1⟩ := List.getElem?_eq_some_iff.1 hj
    obtain ⟨h2l, h2⟩ := List.getElem?_eq_some_iff.1 hm
    have := List.pairwise_iff_getElem.1 hs j m h1l h2l hjm
    omega
theorem lev_rank {N : Nat} {es : List (Int × Int)} {lv : Nat → Nat} (h : LevP N es lv) : ∀ (m c : Nat), rankG N es c ≤ m → c < (nodesG N es).length → lv c ≤ rankG N es c
  | m, c, hm, hc => by
    rcases h.attain c hc with h0 | ⟨d, hd, h0⟩
    · omega
    · have h1 := rankG_lt hd
      match m with
      | 0 => omega
      | m + 1 =>
        have := lev_rank h m d (by omega) (by have := (condG_ok N es).1 c d hd; rwa [(condG_len N es).1] at this)
        omega
theorem levels_len {N : Nat} {es : List (Int × Int)} {lv : Nat → Nat} (h : LevP N es lv) : (levelsG N es).length ≤ N + 1 := by
  rcases h.ln with h0 | ⟨c, hc, h0⟩
  · omega
  · have h1 := lev_rank h _ c (Nat.le_refl _) hc
    have h2 : rankG N es c ≤ N := by
      unfold rankG
      have := List.length_filter_le (fun k => @decide (∃ n, n < N ∧ clG N es n = c ∧ Rch (sucs N es) n k) (Classical.propDecidable _)) (List.range N)
      rwa [List.length_range] at this
    omega

set_option maxRecDepth 100000 in
set_option maxHeartbeats 8000000 in
theorem GraphConverse_any (a : Option Addr) (c : Nat) (ev : Value) (ns : List ByteArray) (es : List (Int × Int)) (w : World) (hE : EdgesOf w.heap.size ev es w) (hR : RowOf Value.string w.heap.size (.slice a ns.length c) ns w) :
    Calls Try.prog 7 #[.agg #[.slice a ns.length c, ev]] w fun e w' => e = .returned (.bool true) ∧ Below w.heap.size w w' := by
  have hE0 := hE
  obtain ⟨ao, ec, rfl, _⟩ := hE
  have HE := Lib.hid hE0
  have HR := Lib.hid hR
  have HB0 : Hid (Below w.heap.size w (w.alloc (.cells #[.slice a ns.length c, .slice ao es.length ec] 25))) := Lib.hid (bel_alloc _ _)
  have HG0 : Hid ((w.alloc (.cells #[.slice a ns.length c, .slice ao es.length ec] 25)).heap[w.heap.size]? = some (.cells #[.slice a ns.length c, .slice ao es.length ec] 25 (0, 0))) := Lib.hid (World.alloc_heap_new w _)
  have HAW := Lib.hid (awake_any (w.alloc (.cells #[.slice a ns.length c, .slice ao es.length ec] 25)))
  clear hE0 hR
  go_enter Try.func7, Try.ntmps7
  go_wp2_with fail
  refine HAW.out.mono ?_
  rintro e w1 ⟨rfl, hb1⟩
  have hs1 := hb1.size
  simp only [World.size_alloc] at hs1
  have HG1 := Lib.hid ((hb1.block w.heap.size (by simp)).trans HG0.out)
  have HB1 := Lib.hid (HB0.out.trans (hb1.mono (by simp)))
  have hg0 : w1.cell? ⟨w.heap.size, 0, none⟩ = some (.slice a ns.length c) := cell_of_row _ _ 0 _ _ _ HG1.out
  have hg1 : w1.cell? ⟨w.heap.size, 1, none⟩ = some (.slice ao es.length ec) := cell_of_row _ _ 1 _ _ _ HG1.out
  have HFW := Lib.hid (Few_any a ao ns.length c es.length ec w1)
  clear hb1 HAW
  go_wp2_with fail
  refine HFW.out.mono ?_
  rintro e w2 ⟨rfl, hb2⟩
  have hs2 := hb2.size
  have HG2 := Lib.hid ((hb2.block w.heap.size (by omega)).trans HG1.out)
  have HB2 := Lib.hid (HB1.out.trans (hb2.mono (by omega)))
  have hg0 : w2.cell? ⟨w.heap.size, 0, none⟩ = some (.slice a ns.length c) := cell_of_row _ _ 0 _ _ _ HG2.out
  have hg1 : w2.cell? ⟨w.heap.size, 1, none⟩ = some (.slice ao es.length ec) := cell_of_row _ _ 1 _ _ _ HG2.out
  clear hb2 HFW
  by_cases hfw : (decide (ns.length ≤ 14) && decide (es.length ≤ 60)) = true
  case neg =>
    have hf2 : (decide (ns.length ≤ 14) && decide (es.length ≤ 60)) = false := by simpa using hfw
    rw [hf2]
    clear hfw hf2
    go_wp2_with fail
    go_ret
    exact ⟨rfl, HB2.out⟩
  case pos =>
    have hN : ns.length ≤ 14 := by rw [Bool.and_eq_true] at hfw; exact of_decide_eq_true hfw.1
    have hes : es.length ≤ 60 := by rw [Bool.and_eq_true] at hfw; exact of_decide_eq_true hfw.2
    rw [hfw]
    clear hfw
    have HVW := Lib.hid (rValid_any a ns.length c (.slice ao es.length ec) es w2 (by omega) (by omega) ((HE.out.below HB2.out (Nat.le_refl _)).mono (by omega)))
    go_wp2_with fail
    refine HVW.out.mono ?_
    rintro e w3 ⟨rfl, hb3⟩
    have hs3 := hb3.size
    have HG3 := Lib.hid ((hb3.block w.heap.size (by omega)).trans HG2.out)
    have HB3 := Lib.hid (HB2.out.trans (hb3.mono (by omega)))
    have hg0 : w3.cell? ⟨w.heap.size, 0, none⟩ = some (.slice a ns.length c) := cell_of_row _ _ 0 _ _ _ HG3.out
    have hg1 : w3.cell? ⟨w.heap.size, 1, none⟩ = some (.slice ao es.length ec) := cell_of_row _ _ 1 _ _ _ HG3.out
    clear hb3 HVW
    by_cases hv : validG ns.length es = true
    case neg =>
      have hv2 : validG ns.length es = false := by simpa using hv
      rw [hv2]
      clear hv hv2
      go_wp2_with fail
      go_ret
      exact ⟨rfl, HB3.out⟩
    case pos =>
      have HV := Lib.hid hv
      rw [hv]
      clear hv
      have hrv := Reverse_any (.slice a ns.length c) (.slice ao es.length ec) ns es w3 (by omega) ((HE.out.below HB3.out (Nat.le_refl _)).mono (by omega)) ((HR.out.below HB3.out (Nat.le_refl _)).mono (by omega))
      have e1 : revN ns es = ns := if_pos HV.out
      have e2 : revE ns.length es = es.map swapE := if_pos HV.out
      rw [e1, e2] at hrv
      have HRV := Lib.hid hrv
      clear hrv e1 e2
      go_wp2_with fail
      refine HRV.out.mono ?_
      rintro e w4 ⟨a4, c4, v4, rfl, hn4, he4, hb4⟩
      have hs4 := hb4.size
      have HE4 := he4
      obtain ⟨ao4, ec4, hv4, _⟩ := he4
      rw [List.length_map] at hv4
      subst hv4
      have HE4 := Lib.hid HE4
      have HG4 := Lib.hid ((hb4.block w.heap.size (by omega)).trans HG3.out)
      have HB4 := Lib.hid (HB3.out.trans (hb4.mono (by omega)))
      have hg0 : w4.cell? ⟨w.heap.size, 0, none⟩ = some (.slice a ns.length c) := cell_of_row _ _ 0 _ _ _ HG4.out
      have hg1 : w4.cell? ⟨w.heap.size, 1, none⟩ = some (.slice ao es.length ec) := cell_of_row _ _ 1 _ _ _ HG4.out
      have hg05 := cellA (.cells #[.slice a4 ns.length c4, .slice ao4 es.length ec4] 25) hg0
      have hg06 := cellA (.cells (Array.replicate ns.length (.int .i64 0)) 3) hg05
      have hg15 := cellA (.cells #[.slice a4 ns.length c4, .slice ao4 es.length ec4] 25) hg1
      have hg16 := cellA (.cells (Array.replicate ns.length (.int .i64 0)) 3) hg15
      have hmk := make_ints ns.length (by omega) (w4.alloc (.cells #[.slice a4 ns.length c4, .slice ao4 es.length ec4] 25))
      obtain ⟨W6, hW6⟩ : ∃ W, W = ((w4.alloc (.cells #[.slice a4 ns.length c4, .slice ao4 es.length ec4] 25)).alloc (.cells (Array.replicate ns.length (.int .i64 0)) 3)) := ⟨_, rfl⟩
      have hs6 : W6.heap.size = w4.heap.size + 1 + 1 := by rw [hW6]; simp
      have hb6 : Below w4.heap.size w4 W6 := by rw [hW6]; exact ((Below.refl _ _).alloc (Nat.le_refl _) _).alloc (by simp) _
      have HI6 : Hid (Ints W6 (w4.heap.size + 1) (List.replicate ns.length 0)) := Lib.hid (by
        rw [hW6]
        have := World.alloc_heap_new (w4.alloc (.cells #[.slice a4 ns.length c4, .slice ao4 es.length ec4] 25)) (.cells (Array.replicate ns.length (.int .i64 0)) 3)
        rw [World.size_alloc] at this
        exact this.trans (by simp))
      have HH6 : Hid (W6.heap[w4.heap.size]? = some (.cells #[.slice a4 ns.length c4, .slice ao4 es.length ec4] 25 (0, 0))) := Lib.hid (by
        rw [hW6]
        exact (Below.heap_alloc _ _ _ (by simp)).trans (World.alloc_heap_new w4 _))
      have HG6 := Lib.hid ((hb6.block w.heap.size (by omega)).trans HG4.out)
      have HB6 := Lib.hid (HB4.out.trans (hb6.mono (by omega)))
      have HE46 := Lib.hid ((HE4.out.below hb6 (Nat.le_refl _)))
      have HLW := Lib.hid (Levels_own (.slice a ns.length c) (.slice ao es.length ec) ns es W6 ((HE.out.below HB6.out (Nat.le_refl _)).mono (by omega)) ((HR.out.below HB6.out (Nat.le_refl _)).mono (by omega)) HV.out (numbered _ _))
      clear hb4 hn4 hb6 HRV
      go_wp2_with fail
      rw [← hW6]
      refine HLW.out.mono ?_
      rintro e w7 ⟨v7, rfl, _, ⟨ta, tc, rfl, hrows⟩, hb7⟩
      have hs7 := hb7.size
      have HI7 : Hid (Ints w7 (w4.heap.size + 1) (List.replicate ns.length 0)) := Lib.hid ((hb7.block _ (by omega)).trans HI6.out)
      have HH7 := Lib.hid ((hb7.block w4.heap.size (by omega)).trans HH6.out)
      have HG7 := Lib.hid ((hb7.block w.heap.size (by omega)).trans HG6.out)
      have HB7 := Lib.hid (HB6.out.trans (hb7.mono (by omega)))
      have HE47 := Lib.hid (HE46.out.below hb7 (by omega))
      have HROWS := Lib.hid hrows
      obtain ⟨lv, hlv⟩ := levels_ok ns.length es
      have hll := levels_len hlv
      have HLV := Lib.hid hlv
      have HLV0 := Lib.hid (LvA.start ns.length es lv)
      clear hb7 hrows hlv HLW HI6 HH6 HG6 HE46 HE4 HB6 hg0 hg1 hg05 hg06 hg15 hg16 hmk hW6
      go_wp2_with fail
      go_loopw [31] (fun q wr => ∃ (i : Nat) (d : List Int), i ≤ (levelsG ns.length es).length ∧ q = .int .i64 i ∧ Hid (LvA ns.length es lv i [] d) ∧ Hid (Ints wr (w4.heap.size + 1) d) ∧ Hid (Kept1 (w4.heap.size + 1) w7 wr)) (fun q _ => (levelsG ns.length es).length - (intOf q).toNat)
      case atStart => exact ⟨0, _, by omega, rfl, HLV0, HI7, Lib.hid (Kept1.refl _ _)⟩
      case round =>
        clear HLV0 HI7
        obtain ⟨i, d, hi, rfl, HL, HI, HK⟩ := hrel
        have hsk := HK.out.size
        by_cases hlt : i < (levelsG ns.length es).length
        · have hi0 : (0 : Int) ≤ (i : Int) := by omega
          have hi1 : (i : Int) < ((levelsG ns.length es).length : Int) := by omega
          obtain ⟨row, hrow⟩ : ∃ row, (levelsG ns.length es)[i]? = some row := ⟨(levelsG ns.length es)[i], by simp [hlt]⟩
          have hrd : (levelsG ns.length es).getD i [] = row := by rw [List.getD_eq_getElem?_getD, hrow]; rfl
          obtain ⟨b, off, r, rfl, h1, h2, h3, ra, rc, rfl, h4⟩ := HROWS.out i row hrow
          have hsrt := HLV.out.srt i
          have hmem := HLV.out.mem i
          rw [hrd] at hsrt
          simp only [hrd] at hmem
          have hrl : row.length ≤ ns.length := by
            have hp : row.Perm ((List.range ns.length).filter fun k => decide (k ∈ row)) := (List.perm_ext_iff_of_nodup (hsrt.imp fun h => Nat.ne_of_lt h) (List.nodup_range.filter _)).2 fun k => by
              rw [List.mem_filter, List.mem_range, decide_eq_true_eq]
              exact ⟨fun hk => ⟨((hmem k).1 hk).1, hk⟩, fun hk => hk.2⟩
            rw [hp.length_eq]
            have := List.length_filter_le (fun k => decide (k ∈ row)) (List.range ns.length)
            rwa [List.length_range] at this
          have hcr := (HK.out.cell (i := off + i) (by omega)).trans h3
          have H4 := Lib.hid h4
          have HSRT := Lib.hid hsrt
          have HMEM := Lib.hid hmem
          have HL' : Hid (LvA ns.length es lv i (row.take 0) d) := Lib.hid (by rw [List.take_zero]; exact HL.out)
          clear h4 hsrt hmem hrd hrow h3 h1 h2 HL
          go_wp2_with fail
          go_loopw [38] (fun q wr => ∃ (m : Nat) (d : List Int), m ≤ row.length ∧ q = .int .i64 m ∧ Hid (LvA ns.length es lv i (row.take m) d) ∧ Hid (Ints wr (w4.heap.size + 1) d) ∧ Hid (Kept1 (w4.heap.size + 1) w7 wr)) (fun q _ => row.length - (intOf q).toNat)
          case atStart => exact ⟨0, d, by omega, rfl, HL', HI, HK⟩
          case round =>
            clear HL' HI HK hcr hsk
            obtain ⟨m, d, hm, rfl, HL, HI, HK⟩ := hrel
            have hsk := HK.out.size
            by_cases hlt2 : m < row.length
            · have hm0 : (0 : Int) ≤ (m : Int) := by omega
              have hm1 : (m : Int) < (row.length : Int) := by omega
              obtain ⟨n, hn⟩ : ∃ n, row[m]? = some n := ⟨row[m], by simp [hlt2]⟩
              obtain ⟨rb, ro, rfl, h5, h6, h7⟩ := H4.out m n hn
              obtain ⟨hnN, hnl⟩ := (HMEM.out n).1 (List.mem_of_getElem? hn)
              have hz := HL.out.zero hn HSRT.out hnN hnl
              have hcm := (HK.out.cell (i := ro + m) (by omega)).trans h7
              have hdl := HL.out.1
              have hcn := HI.out.cell n _ (gD_get (by omega))
              rw [hz] at hcn
              have hfn := frozen_of_row _ _ n _ _ HI.out
              have hn0 : (0 : Int) ≤ (n : Int) := by omega
              have hn1 : (n : Int) < (ns.length : Int) := by omega
              have p1 : decide ((n : Int) < 0) = false := decide_eq_false (by omega)
              have p2 : decide ((ns.length : Int) ≤ (n : Int)) = false := decide_eq_false (by omega)
              have hwi : IntKind.i64.wrap ((i : Int) + 1) = (i : Int) + 1 := IntWalk.i64_in _ (by omega)
              have HL2 : Hid (LvA ns.length es lv i (row.take (m + 1)) (d.set n ((i : Int) + 1))) := Lib.hid (by
                have h9 : row.take (m + 1) = row.take m ++ [n] := by
                  obtain ⟨_, e⟩ := List.getElem?_eq_some_iff.1 hn
                  rw [List.take_succ_eq_append_getElem hlt2, e]
                rw [h9]
                exact HL.out.set hnN hnl)
              clear hz h7 hn hnl h5 h6 HL
              go_wp2_with fail
              go_roundw
              case rel => exact ⟨m + 1, _, by omega, by go_num, HL2, Lib.hid (HI.out.set n _), Lib.hid (HK.out.set n _)⟩
              case measure => simp [intOf]; omega
            · have hmm : m = row.length := by omega
              subst hmm
              have HL2 : Hid (LvA ns.length es lv (i + 1) [] d) := Lib.hid (by
                have := HL.out
                rw [List.take_length] at this
                exact this.next HMEM.out)
              go_wp2_with fail
              go_roundw
              case rel => exact ⟨i + 1, d, by omega, by go_num, HL2, HI, HK⟩
              case measure => simp [intOf]; omega
        · have hii : i = (levelsG ns.length es).length := by omega
          have HF : Hid (d.length = ns.length ∧ ∀ n, n < ns.length → gD d n = ((lv (clG ns.length es n) + 1 : Nat) : Int)) := Lib.hid ⟨HL.out.1, fun n hn => by
            rw [HL.out.2 n hn, if_pos (.inl (by rw [hii]; exact HLV.out.lt _ (clG_lt hn)))]⟩
          obtain ⟨w9, hw9⟩ : ∃ W : World, W = wr := ⟨_, rfl⟩
          subst hw9
          have HG9 := Lib.hid ((HK.out.blk w.heap.size (by omega)).trans HG7.out)
          have HH9 := Lib.hid ((HK.out.blk w4.heap.size (by omega)).trans HH7.out)
          have HB9 : Hid (Below w.heap.size w w9) := Lib.hid (HB7.out.trans (HK.out.bel.mono (by omega)))
          have HE49 : Hid (EdgesOf w4.heap.size (.slice ao4 es.length ec4) (es.map swapE) w9) := Lib.hid (HE47.out.below HK.out.bel (by omega))
          have hg0 : w9.cell? ⟨w.heap.size, 0, none⟩ = some (.slice a ns.length c) := cell_of_row _ _ 0 _ _ _ HG9.out
          subst hii
          clear hi hlt HL HK
          go_wp2_with fail
          go_loopw [67] (fun q wr => ∃ i : Nat, i ≤ ns.length ∧ q = .int .i64 i ∧ Hid (Below w9.heap.size w9 wr)) (fun q _ => ns.length - (intOf q).toNat)
          case atStart => exact ⟨0, by omega, rfl, Lib.hid (Below.refl _ _)⟩
          case round =>
            obtain ⟨i, hi, rfl, HBI⟩ := hrel
            have hsi := HBI.out.size
            clear hg0
            by_cases hlt3 : i < ns.length
            · have hi0 : (0 : Int) ≤ (i : Int) := by omega
              have hi1 : (i : Int) < (ns.length : Int) := by omega
              have hIi : Ints wr (w4.heap.size + 1) d := (HBI.out.block _ (by omega)).trans HI.out
              have hdl := HF.out.1
              have hcu := hIi.cell i _ (gD_get (by omega))
              rw [HF.out.2 i hlt3] at hcu
              obtain ⟨ui, hui⟩ : ∃ ui, ui = lv (clG ns.length es i) + 1 := ⟨_, rfl⟩
              rw [← hui] at hcu
              have hu0 : ¬ (ui : Int) = 0 := by omega
              have hu1 : decide ((ui : Int) = 0) = false := decide_eq_false hu0
              have hu2 : ((ui : Int) == 0) = false := by simpa using hu0
              have HUI := Lib.hid hui
              have hg0 : wr.cell? ⟨w.heap.size, 0, none⟩ = some (.slice a ns.length c) := cell_of_row _ _ 0 _ _ _ ((HBI.out.block _ (by omega)).trans HG9.out)
              clear hIi hui
              go_wp2_with fail
              clear hcu hg0
              go_loopw [78] (fun q wr => ∃ k : Nat, k ≤ ns.length ∧ q = .int .i64 k ∧ Hid (Below w9.heap.size w9 wr)) (fun q _ => ns.length - (intOf q).toNat)
              case atStart => exact ⟨0, by omega, rfl, HBI⟩
              case round =>
                clear hsi HBI
                obtain ⟨k, hk, rfl, HBK⟩ := hrel
                have hsk := HBK.out.size
                by_cases hlt4 : k < ns.length
                · have hk0 : (0 : Int) ≤ (k : Int) := by omega
                  have hk1 : (k : Int) < (ns.length : Int) := by omega
                  have hg0 : wr.cell? ⟨w.heap.size, 0, none⟩ = some (.slice a ns.length c) := cell_of_row _ _ 0 _ _ _ ((HBK.out.block _ (by omega)).trans HG9.out)
                  have hg1 : wr.cell? ⟨w.heap.size, 1, none⟩ = some (.slice ao es.length ec) := cell_of_row _ _ 1 _ _ _ ((HBK.out.block _ (by omega)).trans HG9.out)
                  have HR1 := Lib.hid (reach1_any a ns.length c (.slice ao es.length ec) es i wr ((HE.out.below (HB9.out.trans (HBK.out.mono (by omega))) (Nat.le_refl _)).mono (by omega)) HV.out hlt3)
                  go_wp2_with fail
                  refine HR1.out.mono ?_
                  rintro e w10 ⟨ra, rl, rc, rfl, hb10, hcon⟩
                  have hs10 := hb10.size
                  have HC1 := Lib.hid (hcon w10 k (Below.refl _ _))
                  have HB10 := Lib.hid (HBK.out.trans (hb10.mono hsk))
                  clear hcon hb10 HR1 hg0 hg1
                  have hh0 : w10.cell? ⟨w4.heap.size, 0, none⟩ = some (.slice a4 ns.length c4) := cell_of_row _ _ 0 _ _ _ ((HB10.out.block _ (by omega)).trans HH9.out)
                  have hh1 : w10.cell? ⟨w4.heap.size, 1, none⟩ = some (.slice ao4 es.length ec4) := cell_of_row _ _ 1 _ _ _ ((HB10.out.block _ (by omega)).trans HH9.out)
                  have HR2 := Lib.hid (reach1_any a4 ns.length c4 (.slice ao4 es.length ec4) (es.map swapE) k w10 ((HE49.out.below HB10.out (by omega)).mono (by omega)) (validG_swap HV.out) hlt4)
                  go_wp2_with fail
                  refine HC1.out.mono ?_
                  rintro e w11 ⟨rfl, hw11⟩
                  rw [hw11]
                  clear hw11 w11 HC1
                  go_wp2_with fail
                  refine HR2.out.mono ?_
                  rintro e w12 ⟨ra2, rl2, rc2, rfl, hb12, hcon2⟩
                  have hs12 := hb12.size
                  have hc2 := hcon2 w12 i (Below.refl _ _)
                  rw [rchB_swap hlt3 hlt4] at hc2
                  have HC2 := Lib.hid hc2
                  have HB12 := Lib.hid (HB10.out.trans (hb12.mono (by omega)))
                  clear hcon2 hb12 hc2 HR2 hh0 hh1
                  obtain ⟨rb, hrb⟩ : ∃ rb, rb = rchB ns.length es i k := ⟨_, rfl⟩
                  rw [← hrb] at HC2
                  rw [← hrb]
                  have HRB := Lib.hid hrb
                  clear hrb
                  have hdl := HF.out.1
                  obtain ⟨uk, huk⟩ : ∃ uk, uk = lv (clG ns.length es k) + 1 := ⟨_, rfl⟩
                  have HUK := Lib.hid huk
                  have hci : ∀ W, Below w9.heap.size w9 W → HeldT ⟨w.heap.size, 0, none⟩ ⟨w.heap.size, 1, none⟩ ⟨w4.heap.size + 1, k, none⟩ ⟨w4.heap.size + 1, i, none⟩ (.slice a ns.length c) (.slice ao es.length ec) (.int .i64 (uk : Int)) (.int .i64 (ui : Int)) W := fun W hW => by
                    have hIi : Ints W (w4.heap.size + 1) d := (hW.block _ (by omega)).trans HI.out
                    have h1 := hIi.cell k _ (gD_get (by omega))
                    have h2 := hIi.cell i _ (gD_get (by omega))
                    rw [HF.out.2 k hlt4, ← huk] at h1
                    rw [HF.out.2 i hlt3, ← HUI.out] at h2
                    exact ⟨cell_of_row _ _ 0 _ _ _ ((hW.block _ (by omega)).trans HG9.out), cell_of_row _ _ 1 _ _ _ ((hW.block _ (by omega)).trans HG9.out), h1, h2⟩
                  have HCI := Lib.hid hci
                  clear hci huk
                  cases rb with
                  | false =>
                    go_wp2_with fail
                    refine HC2.out.mono ?_
                    rintro e w13 ⟨rfl, hw13⟩
                    rw [hw13]
                    clear hw13 w13 HC2
                    go_wp2_with fail
                    have HBd : Hid (Below w9.heap.size w9 w12.drew) := Lib.hid HB12.out.drew
                    have hSd := HCI.out _ HBd.out
                    refine region_plainP (S := HeldT ⟨w.heap.size, 0, none⟩ ⟨w.heap.size, 1, none⟩ ⟨w4.heap.size + 1, k, none⟩ ⟨w4.heap.size + 1, i, none⟩ (.slice a ns.length c) (.slice ao es.length ec) (.int .i64 (uk : Int)) (.int .i64 (ui : Int))) (by kernel_rfl) ?_
                    (refine wpAnyH_take (i := 0) (v := ?_) rfl (by kernel_rfl) (by kernel_rfl) (by kernel_rfl) (fun _ _ _ h => h) (Or.inl ⟨by rfl, ?_⟩) (by assumption) ?_; rotate_left; (· (intro w hSw; obtain ⟨c0, c1, c2, c3⟩ := hSw; go_simp; try with_reducible rfl)); (try simp only [List.getElem_toArray, List.getElem_cons_zero, List.getElem_cons_succ, Act.put, List.setIfInBounds_toArray, List.set_cons_zero, List.set_cons_succ]))
                    (refine wpAnyH_take (i := 1) (v := ?_) rfl (by kernel_rfl) (by kernel_rfl) (by kernel_rfl) (fun _ _ _ h => h) (Or.inl ⟨by rfl, ?_⟩) (by assumption) ?_; rotate_left; (· (intro w hSw; obtain ⟨c0, c1, c2, c3⟩ := hSw; go_simp; try with_reducible rfl)); (try simp only [List.getElem_toArray, List.getElem_cons_zero, List.getElem_cons_succ, Act.put, List.setIfInBounds_toArray, List.set_cons_zero, List.set_cons_succ]))
                    (refine wpAnyH_take (i := 2) (v := undef) rfl (by kernel_rfl) (by kernel_rfl) (by kernel_rfl) (fun _ _ _ h => h) (Or.inr ⟨by rfl, rfl⟩) (by assumption) ?_; (try simp only [List.getElem_toArray, List.getElem_cons_zero, List.getElem_cons_succ, Act.put, List.setIfInBounds_toArray, List.set_cons_zero, List.set_cons_succ]))
                    (refine wpAnyH_take (i := 3) (v := undef) rfl (by kernel_rfl) (by kernel_rfl) (by kernel_rfl) (fun _ _ _ h => h) (Or.inr ⟨by rfl, rfl⟩) (by assumption) ?_; (try simp only [List.getElem_toArray, List.getElem_cons_zero, List.getElem_cons_succ, Act.put, List.setIfInBounds_toArray, List.set_cons_zero, List.set_cons_succ]))
                    (refine wpAnyH_take (i := 4) (v := undef) rfl (by kernel_rfl) (by kernel_rfl) (by kernel_rfl) (fun _ _ _ h => h) (Or.inr ⟨by rfl, rfl⟩) (by assumption) ?_; (try simp only [List.getElem_toArray, List.getElem_cons_zero, List.getElem_cons_succ, Act.put, List.setIfInBounds_toArray, List.set_cons_zero, List.set_cons_succ]))
                    (refine wpAnyH_take (i := 5) (v := undef) rfl (by kernel_rfl) (by kernel_rfl) (by kernel_rfl) (fun _ _ _ h => h) (Or.inr ⟨by rfl, rfl⟩) (by assumption) ?_; (try simp only [List.getElem_toArray, List.getElem_cons_zero, List.getElem_cons_succ, Act.put, List.setIfInBounds_toArray, List.set_cons_zero, List.set_cons_succ]))
                    (refine wpAnyH_take (i := 6) (v := undef) rfl (by kernel_rfl) (by kernel_rfl) (by kernel_rfl) (fun _ _ _ h => h) (Or.inr ⟨by rfl, rfl⟩) (by assumption) ?_; (try simp only [List.getElem_toArray, List.getElem_cons_zero, List.getElem_cons_succ, Act.put, List.setIfInBounds_toArray, List.set_cons_zero, List.set_cons_succ]))
                    (refine wpAnyH_take (i := 7) (v := undef) rfl (by kernel_rfl) (by kernel_rfl) (by kernel_rfl) (fun _ _ _ h => h) (Or.inr ⟨by rfl, rfl⟩) (by assumption) ?_; (try simp only [List.getElem_toArray, List.getElem_cons_zero, List.getElem_cons_succ, Act.put, List.setIfInBounds_toArray, List.set_cons_zero, List.set_cons_succ]))
                    (refine wpAnyH_take (i := 8) (v := undef) rfl (by kernel_rfl) (by kernel_rfl) (by kernel_rfl) (fun _ _ _ h => h) (Or.inr ⟨by rfl, rfl⟩) (by assumption) ?_; (try simp only [List.getElem_toArray, List.getElem_cons_zero, List.getElem_cons_succ, Act.put, List.setIfInBounds_toArray, List.set_cons_zero, List.set_cons_succ]))
                    (refine wpAnyH_take (i := 9) (v := undef) rfl (by kernel_rfl) (by kernel_rfl) (by kernel_rfl) (fun _ _ _ h => h) (Or.inr ⟨by rfl, rfl⟩) (by assumption) ?_; (try simp only [List.getElem_toArray, List.getElem_cons_zero, List.getElem_cons_succ, Act.put, List.setIfInBounds_toArray, List.set_cons_zero, List.set_cons_succ]))
                    (refine wpAnyH_take (i := 10) (v := undef) rfl (by kernel_rfl) (by kernel_rfl) (by kernel_rfl) (fun _ _ _ h => h) (Or.inr ⟨by rfl, rfl⟩) (by assumption) ?_; (try simp only [List.getElem_toArray, List.getElem_cons_zero, List.getElem_cons_succ, Act.put, List.setIfInBounds_toArray, List.set_cons_zero, List.set_cons_succ]))
                    (refine wpAnyH_take (i := 11) (v := undef) rfl (by kernel_rfl) (by kernel_rfl) (by kernel_rfl) (fun _ _ _ h => h) (Or.inr ⟨by rfl, rfl⟩) (by assumption) ?_; (try simp only [List.getElem_toArray, List.getElem_cons_zero, List.getElem_cons_succ, Act.put, List.setIfInBounds_toArray, List.set_cons_zero, List.set_cons_succ]))
                    (refine wpAnyH_take (i := 12) (v := undef) rfl (by kernel_rfl) (by kernel_rfl) (by kernel_rfl) (fun _ _ _ h => h) (Or.inr ⟨by rfl, rfl⟩) (by assumption) ?_; (try simp only [List.getElem_toArray, List.getElem_cons_zero, List.getElem_cons_succ, Act.put, List.setIfInBounds_toArray, List.set_cons_zero, List.set_cons_succ]))
                    (refine wpAnyH_take (i := 13) (v := undef) rfl (by kernel_rfl) (by kernel_rfl) (by kernel_rfl) (fun _ _ _ h => h) (Or.inr ⟨by rfl, rfl⟩) (by assumption) ?_; (try simp only [List.getElem_toArray, List.getElem_cons_zero, List.getElem_cons_succ, Act.put, List.setIfInBounds_toArray, List.set_cons_zero, List.set_cons_succ]))
                    (refine wpAnyH_take (i := 14) (v := undef) rfl (by kernel_rfl) (by kernel_rfl) (by kernel_rfl) (fun _ _ _ h => h) (Or.inr ⟨by rfl, rfl⟩) (by assumption) ?_; (try simp only [List.getElem_toArray, List.getElem_cons_zero, List.getElem_cons_succ, Act.put, List.setIfInBounds_toArray, List.set_cons_zero, List.set_cons_succ]))
                    (refine wpAnyH_take (i := 15) (v := undef) rfl (by kernel_rfl) (by kernel_rfl) (by kernel_rfl) (fun _ _ _ h => h) (Or.inr ⟨by rfl, rfl⟩) (by assumption) ?_; (try simp only [List.getElem_toArray, List.getElem_cons_zero, List.getElem_cons_succ, Act.put, List.setIfInBounds_toArray, List.set_cons_zero, List.set_cons_succ]))
                    (refine wpAnyH_take (i := 16) (v := undef) rfl (by kernel_rfl) (by kernel_rfl) (by kernel_rfl) (fun _ _ _ h => h) (Or.inr ⟨by rfl, rfl⟩) (by assumption) ?_; (try simp only [List.getElem_toArray, List.getElem_cons_zero, List.getElem_cons_succ, Act.put, List.setIfInBounds_toArray, List.set_cons_zero, List.set_cons_succ]))
                    (refine wpAnyH_take (i := 17) (v := undef) rfl (by kernel_rfl) (by kernel_rfl) (by kernel_rfl) (fun _ _ _ h => h) (Or.inr ⟨by rfl, rfl⟩) (by assumption) ?_; (try simp only [List.getElem_toArray, List.getElem_cons_zero, List.getElem_cons_succ, Act.put, List.setIfInBounds_toArray, List.set_cons_zero, List.set_cons_succ]))
                    (refine wpAnyH_take (i := 18) (v := undef) rfl (by kernel_rfl) (by kernel_rfl) (by kernel_rfl) (fun _ _ _ h => h) (Or.inr ⟨by rfl, rfl⟩) (by assumption) ?_; (try simp only [List.getElem_toArray, List.getElem_cons_zero, List.getElem_cons_succ, Act.put, List.setIfInBounds_toArray, List.set_cons_zero, List.set_cons_succ]))
                    (refine wpAnyH_take (i := 19) (v := undef) rfl (by kernel_rfl) (by kernel_rfl) (by kernel_rfl) (fun _ _ _ h => h) (Or.inr ⟨by rfl, rfl⟩) (by assumption) ?_; (try simp only [List.getElem_toArray, List.getElem_cons_zero, List.getElem_cons_succ, Act.put, List.setIfInBounds_toArray, List.set_cons_zero, List.set_cons_succ]))
                    (refine wpAnyH_take (i := 20) (v := undef) rfl (by kernel_rfl) (by kernel_rfl) (by kernel_rfl) (fun _ _ _ h => h) (Or.inr ⟨by rfl, rfl⟩) (by assumption) ?_; (try simp only [List.getElem_toArray, List.getElem_cons_zero, List.getElem_cons_succ, Act.put, List.setIfInBounds_toArray, List.set_cons_zero, List.set_cons_succ]))
                    (refine wpAnyH_take (i := 21) (v := undef) rfl (by kernel_rfl) (by kernel_rfl) (by kernel_rfl) (fun _ _ _ h => h) (Or.inr ⟨by rfl, rfl⟩) (by assumption) ?_; (try simp only [List.getElem_toArray, List.getElem_cons_zero, List.getElem_cons_succ, Act.put, List.setIfInBounds_toArray, List.set_cons_zero, List.set_cons_succ]))
                    (refine wpAnyH_take (i := 22) (v := undef) rfl (by kernel_rfl) (by kernel_rfl) (by kernel_rfl) (fun _ _ _ h => h) (Or.inr ⟨by rfl, rfl⟩) (by assumption) ?_; (try simp only [List.getElem_toArray, List.getElem_cons_zero, List.getElem_cons_succ, Act.put, List.setIfInBounds_toArray, List.set_cons_zero, List.set_cons_succ]))
                    (refine wpAnyH_take (i := 23) (v := undef) rfl (by kernel_rfl) (by kernel_rfl) (by kernel_rfl) (fun _ _ _ h => h) (Or.inr ⟨by rfl, rfl⟩) (by assumption) ?_; (try simp only [List.getElem_toArray, List.getElem_cons_zero, List.getElem_cons_succ, Act.put, List.setIfInBounds_toArray, List.set_cons_zero, List.set_cons_succ]))
                    (refine wpAnyH_take (i := 24) (v := undef) rfl (by kernel_rfl) (by kernel_rfl) (by kernel_rfl) (fun _ _ _ h => h) (Or.inr ⟨by rfl, rfl⟩) (by assumption) ?_; (try simp only [List.getElem_toArray, List.getElem_cons_zero, List.getElem_cons_succ, Act.put, List.setIfInBounds_toArray, List.set_cons_zero, List.set_cons_succ]))
                    (refine wpAnyH_take (i := 25) (v := undef) rfl (by kernel_rfl) (by kernel_rfl) (by kernel_rfl) (fun _ _ _ h => h) (Or.inr ⟨by rfl, rfl⟩) (by assumption) ?_; (try simp only [List.getElem_toArray, List.getElem_cons_zero, List.getElem_cons_succ, Act.put, List.setIfInBounds_toArray, List.set_cons_zero, List.set_cons_succ]))
                    (refine wpAnyH_take (i := 26) (v := undef) rfl (by kernel_rfl) (by kernel_rfl) (by kernel_rfl) (fun _ _ _ h => h) (Or.inr ⟨by rfl, rfl⟩) (by assumption) ?_; (try simp only [List.getElem_toArray, List.getElem_cons_zero, List.getElem_cons_succ, Act.put, List.setIfInBounds_toArray, List.set_cons_zero, List.set_cons_succ]))
                    (refine wpAnyH_take (i := 27) (v := undef) rfl (by kernel_rfl) (by kernel_rfl) (by kernel_rfl) (fun _ _ _ h => h) (Or.inr ⟨by rfl, rfl⟩) (by assumption) ?_; (try simp only [List.getElem_toArray, List.getElem_cons_zero, List.getElem_cons_succ, Act.put, List.setIfInBounds_toArray, List.set_cons_zero, List.set_cons_succ]))
                    (refine wpAnyH_take (i := 28) (v := undef) rfl (by kernel_rfl) (by kernel_rfl) (by kernel_rfl) (fun _ _ _ h => h) (Or.inr ⟨by rfl, rfl⟩) (by assumption) ?_; (try simp only [List.getElem_toArray, List.getElem_cons_zero, List.getElem_cons_succ, Act.put, List.setIfInBounds_toArray, List.set_cons_zero, List.set_cons_succ]))
                    (refine wpAnyH_take (i := 29) (v := undef) rfl (by kernel_rfl) (by kernel_rfl) (by kernel_rfl) (fun _ _ _ h => h) (Or.inr ⟨by rfl, rfl⟩) (by assumption) ?_; (try simp only [List.getElem_toArray, List.getElem_cons_zero, List.getElem_cons_succ, Act.put, List.setIfInBounds_toArray, List.set_cons_zero, List.set_cons_succ]))
                    (refine wpAnyH_take (i := 30) (v := undef) rfl (by kernel_rfl) (by kernel_rfl) (by kernel_rfl) (fun _ _ _ h => h) (Or.inr ⟨by rfl, rfl⟩) (by assumption) ?_; (try simp only [List.getElem_toArray, List.getElem_cons_zero, List.getElem_cons_succ, Act.put, List.setIfInBounds_toArray, List.set_cons_zero, List.set_cons_succ]))
                    (refine wpAnyH_take (i := 31) (v := ?_) rfl (by kernel_rfl) (by kernel_rfl) (by kernel_rfl) (fun _ _ _ h => h) (Or.inl ⟨by rfl, ?_⟩) (by assumption) ?_; rotate_left; (· (intro w hSw; obtain ⟨c0, c1, c2, c3⟩ := hSw; go_simp; try with_reducible rfl)); (try simp only [List.getElem_toArray, List.getElem_cons_zero, List.getElem_cons_succ, Act.put, List.setIfInBounds_toArray, List.set_cons_zero, List.set_cons_succ]))
                    refine wpAnyH_done (by kernel_rfl) ?_ _
                    refine NoPanic.normal ?_
                    go_wp2_with fail
                    go_roundw
                    case rel => exact ⟨k + 1, by omega, by go_num, HBd⟩
                    case measure => simp [intOf]; omega
                  | true =>
                    have hlev := rch_lev HLV.out ((rchB_iff.1 HRB.out.symm).2) hlt3
                    have hge : decide ((ui : Int) < (uk : Int)) = false := decide_eq_false (by
                      have h1 := HUI.out
                      have h2 := HUK.out
                      rcases hlev.2 with e | e
                      · rw [e] at h1; omega
                      · omega)
                    have hgn : decide (ui < uk) = false := decide_eq_false (fun h => (of_decide_eq_false hge) (by omega))
                    by_cases hue : uk = ui
                    case neg =>
                      have hq1 : ¬ (uk : Int) = (ui : Int) := by omega
                      have hq2 : decide ((uk : Int) = (ui : Int)) = false := decide_eq_false hq1
                      have hq3 : ((uk : Int) == (ui : Int)) = false := by simpa using hq1
                      have hq4 : (uk == ui) = false := by simpa using hue
                      have hq5 : decide (uk = ui) = false := decide_eq_false hue
                      clear hlev
                      go_wp2_with fail
                      refine HC2.out.mono ?_
                      rintro e w13 ⟨rfl, hw13⟩
                      rw [hw13]
                      clear hw13 w13 HC2
                      go_wp2_with fail
                      have HBd : Hid (Below w9.heap.size w9 w12.drew) := Lib.hid HB12.out.drew
                      have hSd := HCI.out _ HBd.out
                      refine region_plainP (S := HeldT ⟨w.heap.size, 0, none⟩ ⟨w.heap.size, 1, none⟩ ⟨w4.heap.size + 1, k, none⟩ ⟨w4.heap.size + 1, i, none⟩ (.slice a ns.length c) (.slice ao es.length ec) (.int .i64 (uk : Int)) (.int .i64 (ui : Int))) (by kernel_rfl) ?_
                      (refine wpAnyH_take (i := 0) (v := ?_) rfl (by kernel_rfl) (by kernel_rfl) (by kernel_rfl) (fun _ _ _ h => h) (Or.inl ⟨by rfl, ?_⟩) (by assumption) ?_; rotate_left; (· (intro w hSw; obtain ⟨c0, c1, c2, c3⟩ := hSw; go_simp; try with_reducible rfl)); (try simp only [List.getElem_toArray, List.getElem_cons_zero, List.getElem_cons_succ, Act.put, List.setIfInBounds_toArray, List.set_cons_zero, List.set_cons_succ]))
                      (refine wpAnyH_take (i := 1) (v := ?_) rfl (by kernel_rfl) (by kernel_rfl) (by kernel_rfl) (fun _ _ _ h => h) (Or.inl ⟨by rfl, ?_⟩) (by assumption) ?_; rotate_left; (· (intro w hSw; obtain ⟨c0, c1, c2, c3⟩ := hSw; go_simp; try with_reducible rfl)); (try simp only [List.getElem_toArray, List.getElem_cons_zero, List.getElem_cons_succ, Act.put, List.setIfInBounds_toArray, List.set_cons_zero, List.set_cons_succ]))
                      (refine wpAnyH_take (i := 2) (v := ?_) rfl (by kernel_rfl) (by kernel_rfl) (by kernel_rfl) (fun _ _ _ h => h) (Or.inl ⟨by rfl, ?_⟩) (by assumption) ?_; rotate_left; (· (intro w hSw; obtain ⟨c0, c1, c2, c3⟩ := hSw; go_simp; try with_reducible rfl)); (try simp only [List.getElem_toArray, List.getElem_cons_zero, List.getElem_cons_succ, Act.put, List.setIfInBounds_toArray, List.set_cons_zero, List.set_cons_succ]))
                      (refine wpAnyH_take (i := 3) (v := ?_) rfl (by kernel_rfl) (by kernel_rfl) (by kernel_rfl) (fun _ _ _ h => h) (Or.inl ⟨by rfl, ?_⟩) (by assumption) ?_; rotate_left; (· (intro w hSw; obtain ⟨c0, c1, c2, c3⟩ := hSw; go_simp; try with_reducible rfl)); (try simp only [List.getElem_toArray, List.getElem_cons_zero, List.getElem_cons_succ, Act.put, List.setIfInBounds_toArray, List.set_cons_zero, List.set_cons_succ]))
                      (refine wpAnyH_take (i := 4) (v := ?_) rfl (by kernel_rfl) (by kernel_rfl) (by kernel_rfl) (fun _ _ _ h => h) (Or.inl ⟨by rfl, ?_⟩) (by assumption) ?_; rotate_left; (· (intro w hSw; obtain ⟨c0, c1, c2, c3⟩ := hSw; go_simp; try with_reducible rfl)); (try simp only [List.getElem_toArray, List.getElem_cons_zero, List.getElem_cons_succ, Act.put, List.setIfInBounds_toArray, List.set_cons_zero, List.set_cons_succ]))
                      (refine wpAnyH_take (i := 5) (v := ?_) rfl (by kernel_rfl) (by kernel_rfl) (by kernel_rfl) (fun _ _ _ h => h) (Or.inl ⟨by rfl, ?_⟩) (by assumption) ?_; rotate_left; (· (intro w hSw; obtain ⟨c0, c1, c2, c3⟩ := hSw; go_simp; try with_reducible rfl)); (try simp only [List.getElem_toArray, List.getElem_cons_zero, List.getElem_cons_succ, Act.put, List.setIfInBounds_toArray, List.set_cons_zero, List.set_cons_succ]))
                      (refine wpAnyH_take (i := 6) (v := ?_) rfl (by kernel_rfl) (by kernel_rfl) (by kernel_rfl) (fun _ _ _ h => h) (Or.inl ⟨by rfl, ?_⟩) (by assumption) ?_; rotate_left; (· (intro w hSw; obtain ⟨c0, c1, c2, c3⟩ := hSw; go_simp; try with_reducible rfl)); (try simp only [List.getElem_toArray, List.getElem_cons_zero, List.getElem_cons_succ, Act.put, List.setIfInBounds_toArray, List.set_cons_zero, List.set_cons_succ]))
                      (refine wpAnyH_take (i := 7) (v := ?_) rfl (by kernel_rfl) (by kernel_rfl) (by kernel_rfl) (fun _ _ _ h => h) (Or.inl ⟨by rfl, ?_⟩) (by assumption) ?_; rotate_left; (· (intro w hSw; obtain ⟨c0, c1, c2, c3⟩ := hSw; go_simp; try with_reducible rfl)); (try simp only [List.getElem_toArray, List.getElem_cons_zero, List.getElem_cons_succ, Act.put, List.setIfInBounds_toArray, List.set_cons_zero, List.set_cons_succ]))
                      (refine wpAnyH_take (i := 8) (v := ?_) rfl (by kernel_rfl) (by kernel_rfl) (by kernel_rfl) (fun _ _ _ h => h) (Or.inl ⟨by rfl, ?_⟩) (by assumption) ?_; rotate_left; (· (intro w hSw; obtain ⟨c0, c1, c2, c3⟩ := hSw; go_simp; try with_reducible rfl)); (try simp only [List.getElem_toArray, List.getElem_cons_zero, List.getElem_cons_succ, Act.put, List.setIfInBounds_toArray, List.set_cons_zero, List.set_cons_succ]))
                      (refine wpAnyH_take (i := 9) (v := ?_) rfl (by kernel_rfl) (by kernel_rfl) (by kernel_rfl) (fun _ _ _ h => h) (Or.inl ⟨by rfl, ?_⟩) (by assumption) ?_; rotate_left; (· (intro w hSw; obtain ⟨c0, c1, c2, c3⟩ := hSw; go_simp; try with_reducible rfl)); (try simp only [List.getElem_toArray, List.getElem_cons_zero, List.getElem_cons_succ, Act.put, List.setIfInBounds_toArray, List.set_cons_zero, List.set_cons_succ]))
                      (refine wpAnyH_take (i := 10) (v := ?_) rfl (by kernel_rfl) (by kernel_rfl) (by kernel_rfl) (fun _ _ _ h => h) (Or.inl ⟨by rfl, ?_⟩) (by assumption) ?_; rotate_left; (· (intro w hSw; obtain ⟨c0, c1, c2, c3⟩ := hSw; go_simp; try with_reducible rfl)); (try simp only [List.getElem_toArray, List.getElem_cons_zero, List.getElem_cons_succ, Act.put, List.setIfInBounds_toArray, List.set_cons_zero, List.set_cons_succ]))
                      try rw [hgn]
                      (refine wpAnyH_take (i := 11) (v := ?_) rfl (by kernel_rfl) (by kernel_rfl) (by kernel_rfl) (fun _ _ _ h => h) (Or.inl ⟨by rfl, ?_⟩) (by assumption) ?_; rotate_left; (· (intro w hSw; obtain ⟨c0, c1, c2, c3⟩ := hSw; go_simp; try with_reducible rfl)); (try simp only [List.getElem_toArray, List.getElem_cons_zero, List.getElem_cons_succ, Act.put, List.setIfInBounds_toArray, List.set_cons_zero, List.set_cons_succ]))
                      (refine wpAnyH_take (i := 12) (v := ?_) rfl (by kernel_rfl) (by kernel_rfl) (by kernel_rfl) (fun _ _ _ h => h) (Or.inl ⟨by rfl, ?_⟩) (by assumption) ?_; rotate_left; (· (intro w hSw; obtain ⟨c0, c1, c2, c3⟩ := hSw; go_simp; try with_reducible rfl)); (try simp only [List.getElem_toArray, List.getElem_cons_zero, List.getElem_cons_succ, Act.put, List.setIfInBounds_toArray, List.set_cons_zero, List.set_cons_succ]))
                      (refine wpAnyH_take (i := 13) (v := ?_) rfl (by kernel_rfl) (by kernel_rfl) (by kernel_rfl) (fun _ _ _ h => h) (Or.inl ⟨by rfl, ?_⟩) (by assumption) ?_; rotate_left; (· (intro w hSw; obtain ⟨c0, c1, c2, c3⟩ := hSw; go_simp; try with_reducible rfl)); (try simp only [List.getElem_toArray, List.getElem_cons_zero, List.getElem_cons_succ, Act.put, List.setIfInBounds_toArray, List.set_cons_zero, List.set_cons_succ]))
                      (refine wpAnyH_take (i := 14) (v := ?_) rfl (by kernel_rfl) (by kernel_rfl) (by kernel_rfl) (fun _ _ _ h => h) (Or.inl ⟨by rfl, ?_⟩) (by assumption) ?_; rotate_left; (· (intro w hSw; obtain ⟨c0, c1, c2, c3⟩ := hSw; go_simp; try with_reducible rfl)); (try simp only [List.getElem_toArray, List.getElem_cons_zero, List.getElem_cons_succ, Act.put, List.setIfInBounds_toArray, List.set_cons_zero, List.set_cons_succ]))
                      (refine wpAnyH_take (i := 15) (v := ?_) rfl (by kernel_rfl) (by kernel_rfl) (by kernel_rfl) (fun _ _ _ h => h) (Or.inl ⟨by rfl, ?_⟩) (by assumption) ?_; rotate_left; (· (intro w hSw; obtain ⟨c0, c1, c2, c3⟩ := hSw; go_simp; try with_reducible rfl)); (try simp only [List.getElem_toArray, List.getElem_cons_zero, List.getElem_cons_succ, Act.put, List.setIfInBounds_toArray, List.set_cons_zero, List.set_cons_succ]))
                      (refine wpAnyH_take (i := 16) (v := ?_) rfl (by kernel_rfl) (by kernel_rfl) (by kernel_rfl) (fun _ _ _ h => h) (Or.inl ⟨by rfl, ?_⟩) (by assumption) ?_; rotate_left; (· (intro w hSw; obtain ⟨c0, c1, c2, c3⟩ := hSw; go_simp; try with_reducible rfl)); (try simp only [List.getElem_toArray, List.getElem_cons_zero, List.getElem_cons_succ, Act.put, List.setIfInBounds_toArray, List.set_cons_zero, List.set_cons_succ]))
                      (refine wpAnyH_take (i := 17) (v := ?_) rfl (by kernel_rfl) (by kernel_rfl) (by kernel_rfl) (fun _ _ _ h => h) (Or.inl ⟨by rfl, ?_⟩) (by assumption) ?_; rotate_left; (· (intro w hSw; obtain ⟨c0, c1, c2, c3⟩ := hSw; go_simp; try with_reducible rfl)); (try simp only [List.getElem_toArray, List.getElem_cons_zero, List.getElem_cons_succ, Act.put, List.setIfInBounds_toArray, List.set_cons_zero, List.set_cons_succ]))
                      (refine wpAnyH_take (i := 18) (v := ?_) rfl (by kernel_rfl) (by kernel_rfl) (by kernel_rfl) (fun _ _ _ h => h) (Or.inl ⟨by rfl, ?_⟩) (by assumption) ?_; rotate_left; (· (intro w hSw; obtain ⟨c0, c1, c2, c3⟩ := hSw; go_simp; try with_reducible rfl)); (try simp only [List.getElem_toArray, List.getElem_cons_zero, List.getElem_cons_succ, Act.put, List.setIfInBounds_toArray, List.set_cons_zero, List.set_cons_succ]))
                      (refine wpAnyH_take (i := 19) (v := ?_) rfl (by kernel_rfl) (by kernel_rfl) (by kernel_rfl) (fun _ _ _ h => h) (Or.inl ⟨by rfl, ?_⟩) (by assumption) ?_; rotate_left; (· (intro w hSw; obtain ⟨c0, c1, c2, c3⟩ := hSw; go_simp; try with_reducible rfl)); (try simp only [List.getElem_toArray, List.getElem_cons_zero, List.getElem_cons_succ, Act.put, List.setIfInBounds_toArray, List.set_cons_zero, List.set_cons_succ]))
                      (refine wpAnyH_take (i := 20) (v := ?_) rfl (by kernel_rfl) (by kernel_rfl) (by kernel_rfl) (fun _ _ _ h => h) (Or.inl ⟨by rfl, ?_⟩) (by assumption) ?_; rotate_left; (· (intro w hSw; obtain ⟨c0, c1, c2, c3⟩ := hSw; go_simp; try with_reducible rfl)); (try simp only [List.getElem_toArray, List.getElem_cons_zero, List.getElem_cons_succ, Act.put, List.setIfInBounds_toArray, List.set_cons_zero, List.set_cons_succ]))
                      first | rw [hq3] | rw [hq4] | rw [hq5] | skip
                      (refine wpAnyH_take (i := 21) (v := ?_) rfl (by kernel_rfl) (by kernel_rfl) (by kernel_rfl) (fun _ _ _ h => h) (Or.inl ⟨by rfl, ?_⟩) (by assumption) ?_; rotate_left; (· (intro w hSw; obtain ⟨c0, c1, c2, c3⟩ := hSw; go_simp; try with_reducible rfl)); (try simp only [List.getElem_toArray, List.getElem_cons_zero, List.getElem_cons_succ, Act.put, List.setIfInBounds_toArray, List.set_cons_zero, List.set_cons_succ]))
                      (refine wpAnyH_take (i := 22) (v := undef) rfl (by kernel_rfl) (by kernel_rfl) (by kernel_rfl) (fun _ _ _ h => h) (Or.inr ⟨by rfl, rfl⟩) (by assumption) ?_; (try simp only [List.getElem_toArray, List.getElem_cons_zero, List.getElem_cons_succ, Act.put, List.setIfInBounds_toArray, List.set_cons_zero, List.set_cons_succ]))
                      (refine wpAnyH_take (i := 23) (v := undef) rfl (by kernel_rfl) (by kernel_rfl) (by kernel_rfl) (fun _ _ _ h => h) (Or.inr ⟨by rfl, rfl⟩) (by assumption) ?_; (try simp only [List.getElem_toArray, List.getElem_cons_zero, List.getElem_cons_succ, Act.put, List.setIfInBounds_toArray, List.set_cons_zero, List.set_cons_succ]))
                      (refine wpAnyH_take (i := 24) (v := undef) rfl (by kernel_rfl) (by kernel_rfl) (by kernel_rfl) (fun _ _ _ h => h) (Or.inr ⟨by rfl, rfl⟩) (by assumption) ?_; (try simp only [List.getElem_toArray, List.getElem_cons_zero, List.getElem_cons_succ, Act.put, List.setIfInBounds_toArray, List.set_cons_zero, List.set_cons_succ]))
                      (refine wpAnyH_take (i := 25) (v := undef) rfl (by kernel_rfl) (by kernel_rfl) (by kernel_rfl) (fun _ _ _ h => h) (Or.inr ⟨by rfl, rfl⟩) (by assumption) ?_; (try simp only [List.getElem_toArray, List.getElem_cons_zero, List.getElem_cons_succ, Act.put, List.setIfInBounds_toArray, List.set_cons_zero, List.set_cons_succ]))
                      (refine wpAnyH_take (i := 26) (v := undef) rfl (by kernel_rfl) (by kernel_rfl) (by kernel_rfl) (fun _ _ _ h => h) (Or.inr ⟨by rfl, rfl⟩) (by assumption) ?_; (try simp only [List.getElem_toArray, List.getElem_cons_zero, List.getElem_cons_succ, Act.put, List.setIfInBounds_toArray, List.set_cons_zero, List.set_cons_succ]))
                      (refine wpAnyH_take (i := 27) (v := undef) rfl (by kernel_rfl) (by kernel_rfl) (by kernel_rfl) (fun _ _ _ h => h) (Or.inr ⟨by rfl, rfl⟩) (by assumption) ?_; (try simp only [List.getElem_toArray, List.getElem_cons_zero, List.getElem_cons_succ, Act.put, List.setIfInBounds_toArray, List.set_cons_zero, List.set_cons_succ]))
                      (refine wpAnyH_take (i := 28) (v := undef) rfl (by kernel_rfl) (by kernel_rfl) (by kernel_rfl) (fun _ _ _ h => h) (Or.inr ⟨by rfl, rfl⟩) (by assumption) ?_; (try simp only [List.getElem_toArray, List.getElem_cons_zero, List.getElem_cons_succ, Act.put, List.setIfInBounds_toArray, List.set_cons_zero, List.set_cons_succ]))
                      (refine wpAnyH_take (i := 29) (v := ?_) rfl (by kernel_rfl) (by kernel_rfl) (by kernel_rfl) (fun _ _ _ h => h) (Or.inl ⟨by rfl, ?_⟩) (by assumption) ?_; rotate_left; (· (intro w hSw; obtain ⟨c0, c1, c2, c3⟩ := hSw; go_simp; try with_reducible rfl)); (try simp only [List.getElem_toArray, List.getElem_cons_zero, List.getElem_cons_succ, Act.put, List.setIfInBounds_toArray, List.set_cons_zero, List.set_cons_succ]))
                      (refine wpAnyH_take (i := 30) (v := ?_) rfl (by kernel_rfl) (by kernel_rfl) (by kernel_rfl) (fun _ _ _ h => h) (Or.inl ⟨by rfl, ?_⟩) (by assumption) ?_; rotate_left; (· (intro w hSw; obtain ⟨c0, c1, c2, c3⟩ := hSw; go_simp; try with_reducible rfl)); (try simp only [List.getElem_toArray, List.getElem_cons_zero, List.getElem_cons_succ, Act.put, List.setIfInBounds_toArray, List.set_cons_zero, List.set_cons_succ]))
                      (refine wpAnyH_take (i := 31) (v := ?_) rfl (by kernel_rfl) (by kernel_rfl) (by kernel_rfl) (fun _ _ _ h => h) (Or.inl ⟨by rfl, ?_⟩) (by assumption) ?_; rotate_left; (· (intro w hSw; obtain ⟨c0, c1, c2, c3⟩ := hSw; go_simp; try with_reducible rfl)); (try simp only [List.getElem_toArray, List.getElem_cons_zero, List.getElem_cons_succ, Act.put, List.setIfInBounds_toArray, List.set_cons_zero, List.set_cons_succ]))
                      refine wpAnyH_done (by kernel_rfl) ?_ _
                      refine NoPanic.normal ?_
                      go_wp2_with fail
                      go_roundw
                      case rel => exact ⟨k + 1, by omega, by go_num, HBd⟩
                      case measure => simp [intOf]; omega
                    case pos =>
                      have hback : rchB ns.length es k i = true := rchB_iff.2 ⟨hlt3, by
                        have h1 := HUI.out
                        have h2 := HUK.out
                        rcases hlev.2 with e | e
                        · exact ((clG_eq hlt3 hlt4).1 e).2
                        · omega⟩
                      subst hue
                      have HBd : Hid (Below w9.heap.size w9 w12.drew) := Lib.hid HB12.out.drew
                      have HR3 := Lib.hid (reach1_any a ns.length c (.slice ao es.length ec) es k w12.drew ((HE.out.below (HB9.out.trans (HBd.out.mono (by omega))) (Nat.le_refl _)).mono (by have := HBd.out.size; omega)) HV.out hlt4)
                      clear hlev
                      go_wp2_with fail
                      refine HC2.out.mono ?_
                      rintro e w13 ⟨rfl, hw13⟩
                      rw [hw13]
                      clear hw13 w13 HC2
                      go_wp2_with fail
                      have hSd := HCI.out _ HBd.out
                      refine region_plainP (S := HeldT ⟨w.heap.size, 0, none⟩ ⟨w.heap.size, 1, none⟩ ⟨w4.heap.size + 1, k, none⟩ ⟨w4.heap.size + 1, i, none⟩ (.slice a ns.length c) (.slice ao es.length ec) (.int .i64 (uk : Int)) (.int .i64 (uk : Int))) (by kernel_rfl) ?_
                      (refine wpAnyH_take (i := 0) (v := ?_) rfl (by kernel_rfl) (by kernel_rfl) (by kernel_rfl) (fun _ _ _ h => h) (Or.inl ⟨by rfl, ?_⟩) (by assumption) ?_; rotate_left; (· (intro w hSw; obtain ⟨c0, c1, c2, c3⟩ := hSw; go_simp; try with_reducible rfl)); (try simp only [List.getElem_toArray, List.getElem_cons_zero, List.getElem_cons_succ, Act.put, List.setIfInBounds_toArray, List.set_cons_zero, List.set_cons_succ]))
                      (refine wpAnyH_take (i := 1) (v := ?_) rfl (by kernel_rfl) (by kernel_rfl) (by kernel_rfl) (fun _ _ _ h => h) (Or.inl ⟨by rfl, ?_⟩) (by assumption) ?_; rotate_left; (· (intro w hSw; obtain ⟨c0, c1, c2, c3⟩ := hSw; go_simp; try with_reducible rfl)); (try simp only [List.getElem_toArray, List.getElem_cons_zero, List.getElem_cons_succ, Act.put, List.setIfInBounds_toArray, List.set_cons_zero, List.set_cons_succ]))
                      (refine wpAnyH_take (i := 2) (v := ?_) rfl (by kernel_rfl) (by kernel_rfl) (by kernel_rfl) (fun _ _ _ h => h) (Or.inl ⟨by rfl, ?_⟩) (by assumption) ?_; rotate_left; (· (intro w hSw; obtain ⟨c0, c1, c2, c3⟩ := hSw; go_simp; try with_reducible rfl)); (try simp only [List.getElem_toArray, List.getElem_cons_zero, List.getElem_cons_succ, Act.put, List.setIfInBounds_toArray, List.set_cons_zero, List.set_cons_succ]))
                      (refine wpAnyH_take (i := 3) (v := ?_) rfl (by kernel_rfl) (by kernel_rfl) (by kernel_rfl) (fun _ _ _ h => h) (Or.inl ⟨by rfl, ?_⟩) (by assumption) ?_; rotate_left; (· (intro w hSw; obtain ⟨c0, c1, c2, c3⟩ := hSw; go_simp; try with_reducible rfl)); (try simp only [List.getElem_toArray, List.getElem_cons_zero, List.getElem_cons_succ, Act.put, List.setIfInBounds_toArray, List.set_cons_zero, List.set_cons_succ]))
                      (refine wpAnyH_take (i := 4) (v := ?_) rfl (by kernel_rfl) (by kernel_rfl) (by kernel_rfl) (fun _ _ _ h => h) (Or.inl ⟨by rfl, ?_⟩) (by assumption) ?_; rotate_left; (· (intro w hSw; obtain ⟨c0, c1, c2, c3⟩ := hSw; go_simp; try with_reducible rfl)); (try simp only [List.getElem_toArray, List.getElem_cons_zero, List.getElem_cons_succ, Act.put, List.setIfInBounds_toArray, List.set_cons_zero, List.set_cons_succ]))
                      (refine wpAnyH_take (i := 5) (v := ?_) rfl (by kernel_rfl) (by kernel_rfl) (by kernel_rfl) (fun _ _ _ h => h) (Or.inl ⟨by rfl, ?_⟩) (by assumption) ?_; rotate_left; (· (intro w hSw; obtain ⟨c0, c1, c2, c3⟩ := hSw; go_simp; try with_reducible rfl)); (try simp only [List.getElem_toArray, List.getElem_cons_zero, List.getElem_cons_succ, Act.put, List.setIfInBounds_toArray, List.set_cons_zero, List.set_cons_succ]))
                      (refine wpAnyH_take (i := 6) (v := ?_) rfl (by kernel_rfl) (by kernel_rfl) (by kernel_rfl) (fun _ _ _ h => h) (Or.inl ⟨by rfl, ?_⟩) (by assumption) ?_; rotate_left; (· (intro w hSw; obtain ⟨c0, c1, c2, c3⟩ := hSw; go_simp; try with_reducible rfl)); (try simp only [List.getElem_toArray, List.getElem_cons_zero, List.getElem_cons_succ, Act.put, List.setIfInBounds_toArray, List.set_cons_zero, List.set_cons_succ]))
                      (refine wpAnyH_take (i := 7) (v := ?_) rfl (by kernel_rfl) (by kernel_rfl) (by kernel_rfl) (fun _ _ _ h => h) (Or.inl ⟨by rfl, ?_⟩) (by assumption) ?_; rotate_left; (· (intro w hSw; obtain ⟨c0, c1, c2, c3⟩ := hSw; go_simp; try with_reducible rfl)); (try simp only [List.getElem_toArray, List.getElem_cons_zero, List.getElem_cons_succ, Act.put, List.setIfInBounds_toArray, List.set_cons_zero, List.set_cons_succ]))
                      (refine wpAnyH_take (i := 8) (v := ?_) rfl (by kernel_rfl) (by kernel_rfl) (by kernel_rfl) (fun _ _ _ h => h) (Or.inl ⟨by rfl, ?_⟩) (by assumption) ?_; rotate_left; (· (intro w hSw; obtain ⟨c0, c1, c2, c3⟩ := hSw; go_simp; try with_reducible rfl)); (try simp only [List.getElem_toArray, List.getElem_cons_zero, List.getElem_cons_succ, Act.put, List.setIfInBounds_toArray, List.set_cons_zero, List.set_cons_succ]))
                      (refine wpAnyH_take (i := 9) (v := ?_) rfl (by kernel_rfl) (by kernel_rfl) (by kernel_rfl) (fun _ _ _ h => h) (Or.inl ⟨by rfl, ?_⟩) (by assumption) ?_; rotate_left; (· (intro w hSw; obtain ⟨c0, c1, c2, c3⟩ := hSw; go_simp; try with_reducible rfl)); (try simp only [List.getElem_toArray, List.getElem_cons_zero, List.getElem_cons_succ, Act.put, List.setIfInBounds_toArray, List.set_cons_zero, List.set_cons_succ]))
                      (refine wpAnyH_take (i := 10) (v := ?_) rfl (by kernel_rfl) (by kernel_rfl) (by kernel_rfl) (fun _ _ _ h => h) (Or.inl ⟨by rfl, ?_⟩) (by assumption) ?_; rotate_left; (· (intro w hSw; obtain ⟨c0, c1, c2, c3⟩ := hSw; go_simp; try with_reducible rfl)); (try simp only [List.getElem_toArray, List.getElem_cons_zero, List.getElem_cons_succ, Act.put, List.setIfInBounds_toArray, List.set_cons_zero, List.set_cons_succ]))
                      try rw [hgn]
                      (refine wpAnyH_take (i := 11) (v := ?_) rfl (by kernel_rfl) (by kernel_rfl) (by kernel_rfl) (fun _ _ _ h => h) (Or.inl ⟨by rfl, ?_⟩) (by assumption) ?_; rotate_left; (· (intro w hSw; obtain ⟨c0, c1, c2, c3⟩ := hSw; go_simp; try with_reducible rfl)); (try simp only [List.getElem_toArray, List.getElem_cons_zero, List.getElem_cons_succ, Act.put, List.setIfInBounds_toArray, List.set_cons_zero, List.set_cons_succ]))
                      (refine wpAnyH_take (i := 12) (v := ?_) rfl (by kernel_rfl) (by kernel_rfl) (by kernel_rfl) (fun _ _ _ h => h) (Or.inl ⟨by rfl, ?_⟩) (by assumption) ?_; rotate_left; (· (intro w hSw; obtain ⟨c0, c1, c2, c3⟩ := hSw; go_simp; try with_reducible rfl)); (try simp only [List.getElem_toArray, List.getElem_cons_zero, List.getElem_cons_succ, Act.put, List.setIfInBounds_toArray, List.set_cons_zero, List.set_cons_succ]))
                      (refine wpAnyH_take (i := 13) (v := ?_) rfl (by kernel_rfl) (by kernel_rfl) (by kernel_rfl) (fun _ _ _ h => h) (Or.inl ⟨by rfl, ?_⟩) (by assumption) ?_; rotate_left; (· (intro w hSw; obtain ⟨c0, c1, c2, c3⟩ := hSw; go_simp; try with_reducible rfl)); (try simp only [List.getElem_toArray, List.getElem_cons_zero, List.getElem_cons_succ, Act.put, List.setIfInBounds_toArray, List.set_cons_zero, List.set_cons_succ]))
                      (refine wpAnyH_take (i := 14) (v := ?_) rfl (by kernel_rfl) (by kernel_rfl) (by kernel_rfl) (fun _ _ _ h => h) (Or.inl ⟨by rfl, ?_⟩) (by assumption) ?_; rotate_left; (· (intro w hSw; obtain ⟨c0, c1, c2, c3⟩ := hSw; go_simp; try with_reducible rfl)); (try simp only [List.getElem_toArray, List.getElem_cons_zero, List.getElem_cons_succ, Act.put, List.setIfInBounds_toArray, List.set_cons_zero, List.set_cons_succ]))
                      (refine wpAnyH_take (i := 15) (v := ?_) rfl (by kernel_rfl) (by kernel_rfl) (by kernel_rfl) (fun _ _ _ h => h) (Or.inl ⟨by rfl, ?_⟩) (by assumption) ?_; rotate_left; (· (intro w hSw; obtain ⟨c0, c1, c2, c3⟩ := hSw; go_simp; try with_reducible rfl)); (try simp only [List.getElem_toArray, List.getElem_cons_zero, List.getElem_cons_succ, Act.put, List.setIfInBounds_toArray, List.set_cons_zero, List.set_cons_succ]))
                      (refine wpAnyH_take (i := 16) (v := ?_) rfl (by kernel_rfl) (by kernel_rfl) (by kernel_rfl) (fun _ _ _ h => h) (Or.inl ⟨by rfl, ?_⟩) (by assumption) ?_; rotate_left; (· (intro w hSw; obtain ⟨c0, c1, c2, c3⟩ := hSw; go_simp; try with_reducible rfl)); (try simp only [List.getElem_toArray, List.getElem_cons_zero, List.getElem_cons_succ, Act.put, List.setIfInBounds_toArray, List.set_cons_zero, List.set_cons_succ]))
                      (refine wpAnyH_take (i := 17) (v := ?_) rfl (by kernel_rfl) (by kernel_rfl) (by kernel_rfl) (fun _ _ _ h => h) (Or.inl ⟨by rfl, ?_⟩) (by assumption) ?_; rotate_left; (· (intro w hSw; obtain ⟨c0, c1, c2, c3⟩ := hSw; go_simp; try with_reducible rfl)); (try simp only [List.getElem_toArray, List.getElem_cons_zero, List.getElem_cons_succ, Act.put, List.setIfInBounds_toArray, List.set_cons_zero, List.set_cons_succ]))
                      (refine wpAnyH_take (i := 18) (v := ?_) rfl (by kernel_rfl) (by kernel_rfl) (by kernel_rfl) (fun _ _ _ h => h) (Or.inl ⟨by rfl, ?_⟩) (by assumption) ?_; rotate_left; (· (intro w hSw; obtain ⟨c0, c1, c2, c3⟩ := hSw; go_simp; try with_reducible rfl)); (try simp only [List.getElem_toArray, List.getElem_cons_zero, List.getElem_cons_succ, Act.put, List.setIfInBounds_toArray, List.set_cons_zero, List.set_cons_succ]))
                      (refine wpAnyH_take (i := 19) (v := ?_) rfl (by kernel_rfl) (by kernel_rfl) (by kernel_rfl) (fun _ _ _ h => h) (Or.inl ⟨by rfl, ?_⟩) (by assumption) ?_; rotate_left; (· (intro w hSw; obtain ⟨c0, c1, c2, c3⟩ := hSw; go_simp; try with_reducible rfl)); (try simp only [List.getElem_toArray, List.getElem_cons_zero, List.getElem_cons_succ, Act.put, List.setIfInBounds_toArray, List.set_cons_zero, List.set_cons_succ]))
                      (refine wpAnyH_take (i := 20) (v := ?_) rfl (by kernel_rfl) (by kernel_rfl) (by kernel_rfl) (fun _ _ _ h => h) (Or.inl ⟨by rfl, ?_⟩) (by assumption) ?_; rotate_left; (· (intro w hSw; obtain ⟨c0, c1, c2, c3⟩ := hSw; go_simp; try with_reducible rfl)); (try simp only [List.getElem_toArray, List.getElem_cons_zero, List.getElem_cons_succ, Act.put, List.setIfInBounds_toArray, List.set_cons_zero, List.set_cons_succ]))
                      try rw [beq_self_eq_true]
                      (refine wpAnyH_take (i := 21) (v := ?_) rfl (by kernel_rfl) (by kernel_rfl) (by kernel_rfl) (fun _ _ _ h => h) (Or.inl ⟨by rfl, ?_⟩) (by assumption) ?_; rotate_left; (· (intro w hSw; obtain ⟨c0, c1, c2, c3⟩ := hSw; go_simp; try with_reducible rfl)); (try simp only [List.getElem_toArray, List.getElem_cons_zero, List.getElem_cons_succ, Act.put, List.setIfInBounds_toArray, List.set_cons_zero, List.set_cons_succ]))
                      (refine wpAnyH_take (i := 22) (v := ?_) rfl (by kernel_rfl) (by kernel_rfl) (by kernel_rfl) (fun _ _ _ h => h) (Or.inl ⟨by rfl, ?_⟩) (by assumption) ?_; rotate_left; (· (intro w hSw; obtain ⟨c0, c1, c2, c3⟩ := hSw; go_simp; try with_reducible rfl)); (try simp only [List.getElem_toArray, List.getElem_cons_zero, List.getElem_cons_succ, Act.put, List.setIfInBounds_toArray, List.set_cons_zero, List.set_cons_succ]))
                      (refine wpAnyH_take (i := 23) (v := ?_) rfl (by kernel_rfl) (by kernel_rfl) (by kernel_rfl) (fun _ _ _ h => h) (Or.inl ⟨by rfl, ?_⟩) (by assumption) ?_; rotate_left; (· (intro w hSw; obtain ⟨c0, c1, c2, c3⟩ := hSw; go_simp; try with_reducible rfl)); (try simp only [List.getElem_toArray, List.getElem_cons_zero, List.getElem_cons_succ, Act.put, List.setIfInBounds_toArray, List.set_cons_zero, List.set_cons_succ]))
                      (refine wpAnyH_take (i := 26) (v := ?_) rfl (by kernel_rfl) (by kernel_rfl) (by kernel_rfl) (fun _ _ _ h => h) (Or.inl ⟨by rfl, ?_⟩) (by assumption) ?_; rotate_left; (· (intro w hSw; obtain ⟨c0, c1, c2, c3⟩ := hSw; go_simp; try with_reducible rfl)); (try simp only [List.getElem_toArray, List.getElem_cons_zero, List.getElem_cons_succ, Act.put, List.setIfInBounds_toArray, List.set_cons_zero, List.set_cons_succ]))
                      have HBa : Hid (Below w9.heap.size w9 (w12.drew.alloc (.cells #[.int .i64 (k : Int)] 3))) := Lib.hid (HBd.out.alloc HBd.out.size _)
                      have hSa := HCI.out _ HBa.out
                      refine wpAnyH_ready (rs := [24]) (by kernel_rfl) (by simp) (AllReadyH.cons rfl (fun K hK => ?_) AllReadyH.nil)
                      go_simp
                      refine hK.out _ _ hSa (fun _ => ?_)
                      clear hK K
                      (try simp only [List.getElem_toArray, List.getElem_cons_zero, List.getElem_cons_succ, Act.put, List.setIfInBounds_toArray, List.set_cons_zero, List.set_cons_succ])
                      refine wpAnyH_ready (rs := [25]) (by kernel_rfl) (by simp) (AllReadyH.cons rfl (fun K hK => ?_) AllReadyH.nil)
                      go_simp
                      refine HR3.out.mono ?_
                      rintro e w14 ⟨ra3, rl3, rc3, rfl, hb14, hcon3⟩
                      have HB14 := Lib.hid (HBd.out.trans (hb14.mono HBd.out.size))
                      have hc3 := hcon3 w14 i (Below.refl _ _)
                      rw [hback] at hc3
                      have HC3 := Lib.hid hc3
                      have hS14 := HCI.out _ HB14.out
                      clear hc3 hcon3 hb14 HR3
                      try go_simp
                      refine hK.out _ _ hS14 (fun _ => ?_)
                      clear hK K
                      (try simp only [List.getElem_toArray, List.getElem_cons_zero, List.getElem_cons_succ, Act.put, List.setIfInBounds_toArray, List.set_cons_zero, List.set_cons_succ])
                      refine wpAnyH_ready (rs := [27]) (by kernel_rfl) (by simp) (AllReadyH.cons rfl (fun K hK => ?_) AllReadyH.nil)
                      go_simp
                      refine HC3.out.mono ?_
                      rintro e w15 ⟨rfl, hw15⟩
                      rw [hw15]
                      clear hw15 w15 HC3
                      try go_simp
                      refine hK.out _ _ hS14 (fun _ => ?_)
                      clear hK K
                      (try simp only [List.getElem_toArray, List.getElem_cons_zero, List.getElem_cons_succ, Act.put, List.setIfInBounds_toArray, List.set_cons_zero, List.set_cons_succ])
                      (refine wpAnyH_take (i := 28) (v := ?_) rfl (by kernel_rfl) (by kernel_rfl) (by kernel_rfl) (fun _ _ _ h => h) (Or.inl ⟨by rfl, ?_⟩) (by assumption) ?_; rotate_left; (· (intro w hSw; obtain ⟨c0, c1, c2, c3⟩ := hSw; go_simp; try with_reducible rfl)); (try simp only [List.getElem_toArray, List.getElem_cons_zero, List.getElem_cons_succ, Act.put, List.setIfInBounds_toArray, List.set_cons_zero, List.set_cons_succ]))
                      (refine wpAnyH_take (i := 29) (v := ?_) rfl (by kernel_rfl) (by kernel_rfl) (by kernel_rfl) (fun _ _ _ h => h) (Or.inl ⟨by rfl, ?_⟩) (by assumption) ?_; rotate_left; (· (intro w hSw; obtain ⟨c0, c1, c2, c3⟩ := hSw; go_simp; try with_reducible rfl)); (try simp only [List.getElem_toArray, List.getElem_cons_zero, List.getElem_cons_succ, Act.put, List.setIfInBounds_toArray, List.set_cons_zero, List.set_cons_succ]))
                      (refine wpAnyH_take (i := 30) (v := ?_) rfl (by kernel_rfl) (by kernel_rfl) (by kernel_rfl) (fun _ _ _ h => h) (Or.inl ⟨by rfl, ?_⟩) (by assumption) ?_; rotate_left; (· (intro w hSw; obtain ⟨c0, c1, c2, c3⟩ := hSw; go_simp; try with_reducible rfl)); (try simp only [List.getElem_toArray, List.getElem_cons_zero, List.getElem_cons_succ, Act.put, List.setIfInBounds_toArray, List.set_cons_zero, List.set_cons_succ]))
                      (refine wpAnyH_take (i := 31) (v := ?_) rfl (by kernel_rfl) (by kernel_rfl) (by kernel_rfl) (fun _ _ _ h => h) (Or.inl ⟨by rfl, ?_⟩) (by assumption) ?_; rotate_left; (· (intro w hSw; obtain ⟨c0, c1, c2, c3⟩ := hSw; go_simp; try with_reducible rfl)); (try simp only [List.getElem_toArray, List.getElem_cons_zero, List.getElem_cons_succ, Act.put, List.setIfInBounds_toArray, List.set_cons_zero, List.set_cons_succ]))
                      refine wpAnyH_done (by kernel_rfl) ?_ _
                      refine NoPanic.normal ?_
                      go_wp2_with fail
                      go_roundw
                      case rel => exact ⟨k + 1, by omega, by go_num, HB14⟩
                      case measure => simp [intOf]; omega
                · have hkk : k = ns.length := by omega
                  subst hkk
                  go_wp2_with fail
                  go_roundw
                  case rel => exact ⟨i + 1, by omega, by go_num, HBK⟩
                  case measure => simp [intOf]; omega
            · have hii : i = ns.length := by omega
              go_wp2_with fail
              go_ret
              exact ⟨rfl, HB9.out.trans (HBI.out.mono (by omega))⟩
end Go.Proofs.Ytlcgbkeggmaljaa
