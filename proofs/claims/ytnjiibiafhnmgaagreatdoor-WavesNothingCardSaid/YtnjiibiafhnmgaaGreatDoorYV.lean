/- Contracts of the reference's Has, Union, Same, and of the laws' few. A slice of the call's own is a slice. Contracts: slices. -/
import Derived.Test.YtnjiibiafhnmgaaGreatDoorYU
import Derived.Test.YtnjiibiafhnmgaaGreatDoorYE
import Derived.Test.YtnjiibiafhnmgaaGreatDoorYB
import Derived.Laws.AppendOwnNone
import Derived.Maps.AppendAt
import Derived.Test.YtnjiibiafhnmgaaGreatDoorYQ
import Derived.Test.YtnjiibiafhnmgaaGreatDoorYT
import Derived.Shelf.SlicesE.Clone
namespace Go.Proofs.YtnjiibiafhnmgaaGreatDoor
set_option linter.unusedVariables false
set_option linter.unusedSimpArgs false
open Go Go.RowKit

def inR (p : Int) (x : Int × Int) : Bool := decide (max 0 x.1 ≤ p) && decide (p < min 1000000 x.2)
theorem run_app_nothing {P : Program} {w : World} (base : Nat) (t ty e : TypeId) (i : TypeInfo) (size : Nat) (ht : P.underlying t = some (.slice e)) (hi : P.info? e = some i)
    (v : Value) (n : Nat) (xs : List Value) (hown : w.ownsRow base e size v n xs) (c : Nat) : (Builtin.append_ #[t, t] ty #[v, .slice none 0 c]).run P w = .ok v w := by
  rcases hown.2 with ⟨rfl, rfl⟩ | ⟨g, cap, cur, rfl, _, _, hnc, _⟩
  · simp [Builtin.append_, run_underlying ht, sizeOf, typeInfo, hi, Builtin.lenOf, Builtin.firstCells]
  · simp [Builtin.append_, run_underlying ht, sizeOf, typeInfo, hi, Builtin.lenOf, Builtin.firstCells, hnc, storeCells]
def fewB (l : List (List (Int × Int))) : Bool := (l.all fun s => decide (s.length ≤ 30)) && decide (l.length ≤ 6)
end Go.Proofs.YtnjiibiafhnmgaaGreatDoor

namespace Go.Proofs.YtnjiibiafhnmgaaGreatDoor
set_option linter.unusedVariables false
set_option linter.unusedSimpArgs false
open Go Go.RowKit

theorem own_any {W : World} {B e s n : Nat} {v : Value} {xs : List Value} (h : W.ownsRow B e s v n xs) : ∃ a c, v = .slice a n c := by
  rcases h.2 with ⟨rfl, rfl⟩ | ⟨g, cap, cur, rfl, _⟩
  · exact ⟨_, _, rfl⟩
  · exact ⟨_, _, rfl⟩
end Go.Proofs.YtnjiibiafhnmgaaGreatDoor

namespace Go.Proofs.YtnjiibiafhnmgaaGreatDoor
open Go Go.RowKit Go.Maps Go.Shelf Go.Lib

def cloRenL : Ren := ⟨fun _ => 97, fun x => if x = 22 then 26 else if x = 23 then 53 else 4, fun x => x⟩
theorem cloLaysL : SlLaysE0.n41 Tryz.prog cloRenL := {
  mixed := by kernel_rfl
  f41 := ⟨Tryz.f97.name, by decide, Tryz.func97.trans (congrArg some (by kernel_rfl))⟩
  t4 := Tryz.underlying4
  a4 := Tryz.isAgg4
  z4 := Tryz.sizeOf4
  v4 := Tryz.zeroValue4
  t22 := Tryz.underlying26
  a22 := Tryz.isAgg26
  z22 := Tryz.sizeOf26
  v22 := Tryz.zeroValue26 }
theorem sels_raw {B b off cap : Nat} {l : List SelL} {W : World} (h : SelsOf B (.slice (some ⟨b, off, none⟩) l.length cap) l W) : ∀ j u, (selCells l)[j]? = some u → W.cell? ⟨b, off + j, none⟩ = some u := fun j u hu => by
  have hj := (List.getElem?_eq_some_iff.1 hu).1
  rw [selCells_len] at hj
  obtain ⟨ao, c, e, h⟩ := h
  cases e
  have hi : j / 4 < l.length := by omega
  obtain ⟨b', off', e, _, h0, h1, h2, h3⟩ := h (j / 4) l[j / 4] (by simp [hi])
  cases e
  have hr : j % 4 < 4 := Nat.mod_lt _ (by omega)
  have hat := selCells_at (l := l) hi hr
  rw [show j / 4 * 4 + j % 4 = j by omega, hu, List.getD_eq_getElem?_getD, List.getElem?_eq_getElem hi] at hat
  simp only [Option.getD_some] at hat
  have ej : off + j = off + j / 4 * 4 + j % 4 := by omega
  rw [ej]
  rcases (show j % 4 = 0 ∨ j % 4 = 1 ∨ j % 4 = 2 ∨ j % 4 = 3 by omega) with e | e | e | e
  · rw [e] at hat ⊢; rw [Nat.add_zero, h0]; exact hat.symm
  · rw [e] at hat ⊢; rw [h1]; exact hat.symm
  · rw [e] at hat ⊢; rw [h2]; exact hat.symm
  · rw [e] at hat ⊢; rw [h3]; exact hat.symm
theorem selCells_one (l : List SelL) : ∀ u ∈ selCells l, u.oneCell' = true := fun u hu => by
  unfold selCells at hu
  obtain ⟨x, _, hx⟩ := List.mem_flatMap.1 hu
  simp [selC] at hx
  rcases hx with rfl | rfl | rfl | rfl <;> rfl
theorem selCells_append (a b : List SelL) : selCells (a ++ b) = selCells a ++ selCells b := by unfold selCells; rw [List.flatMap_append]
set_option maxRecDepth 100000 in
theorem clone_sels (v : Value) (s : List SelL) (w : World) (hs : s.length ≤ 1000000) (hS : SelsOf w.heap.size v s w) :
    Calls Tryz.prog 97 #[v] w fun e w' => ∃ v', e = .returned v' ∧ w'.ownsRow w.heap.size 53 4 v' s.length (selCells s) ∧ Below w.heap.size w w' := by
  by_cases h0 : s = []
  · subst h0
    obtain ⟨ao, cap, rfl, h⟩ := hS
    clear h hs
    cases ao with
    | none =>
      refine (AnyE.slices_Clone_nil cloLaysL 0 cap w).mono ?_
      rintro e w' ⟨rfl, rfl⟩
      exact ⟨_, rfl, World.ownsRow_nil _ _ _ _, Below.refl _ _⟩
    | some a =>
      have hq : (binOp .eql 26 (.slice (some a) 0 cap) (.slice none 0 0)).run Tryz.prog w = .ok (.bool false) w := Lib.run_eql_slice_nil w _ _ (some a) 0 cap 0 0 Tryz.underlying26
      go_enter Tryz.func97, Tryz.ntmps97
      go_wp2_with fail
      go_ret
      exact ⟨_, rfl, ⟨rfl, .inr ⟨w.heap.size, 0, #[], rfl, Nat.le_refl _, World.alloc_heap_new _ _, Nat.le_refl _, by decide, rfl, rfl⟩⟩, belQ _ _⟩
  · have hp : 0 < s.length := List.length_pos_iff.2 h0
    have hS2 := hS
    obtain ⟨ao, cap, rfl, h⟩ := hS
    obtain ⟨b, off, rfl, _⟩ := h 0 s[0] (by simp [hp])
    obtain ⟨i0, hi, hz0, hz1, hz2⟩ := info_parts info_sel
    refine AnyE.slices_Clone cloLaysL i0 _ 4 40 hi hz0 hz1 hz2 rfl (by decide) Tryz.sizeOf53 b off s.length cap (selCells s) w (selCells_len s) (by unfold maxLen; omega) (by omega) (sels_raw hS2) (selCells_one s) |>.mono ?_
    rintro e w' ⟨v', rfl, h1, _, h2⟩
    exact ⟨v', rfl, h1, h2⟩
theorem wpList_app_sels {w : World} {ops : Array Oper} {rest : List Oper} {o : Oper} {a : Act} {Q : Exit → Act → World → Prop} (hgd : o.guard = none) (s x : Operand)
    (ho : o.op = .call { callee := .builtin .append, args := #[s, x], argTypes := #[26, 26] })
    (base : Nat) (v : Value) (n : Nat) (L : List SelL) (hs : a.eval s = v) (hown : w.ownsRow base 53 4 v n (selCells L)) (r : Value) (M : List SelL) (hx : a.eval x = r) (hM : SelsOf w.heap.size r M w)
    (hb : n + M.length ≤ 100000000) (hbase : base ≤ w.heap.size)
    (h : ∀ v' w', w'.ownsRow base 53 4 v' (n + M.length) (selCells (L ++ M)) → w.grownBy w' v.ownBlock → wpList Tryz.prog ops Q rest (a.put o.dst v') w') : wpList Tryz.prog ops Q (o :: rest) a w := by
  obtain ⟨i0, hi, hz0, hz1, hz2⟩ := info_parts info_sel
  have hM2 := hM
  obtain ⟨ao, cap, rfl, hE⟩ := hM
  cases ao with
  | none =>
    have h0 : M = [] := by
      cases M with
      | nil => rfl
      | cons y M => obtain ⟨b, off, h1, _⟩ := hE 0 y rfl; cases h1
    subst h0
    refine wpList_plain hgd fun K hK => ?_
    have hrun := run_app_nothing (P := Tryz.prog) (w := w) base 26 o.type 53 i0 4 Tryz.underlying26 hi v n _ hown cap
    unfold Oper.wp
    simp [execOp, ho, resolve, invoke, builtin, hs, hx, hrun, Result.andThen]
    exact hK _ _ (h v w (by simpa using hown) (World.grownBy.refl w _))
  | some ad =>
    refine wpList_append_own _ hgd s x 26 ho base 53 i0 _ 4 40 Tryz.underlying26 hi hz0 hz1 hz2 rfl (by decide) v n _ hs hown ad M.length cap (selCells M) hx (selCells_len M) (fun j u hu => ?_) (selCells_one M) (by unfold maxLen; omega) (by omega) hbase (fun v' w' h2 h3 _ => h v' w' (by rw [selCells_append]; exact h2) h3)
    have hj := (List.getElem?_eq_some_iff.1 hu).1
    rw [selCells_len] at hj
    obtain ⟨b, off, h1, _⟩ := hE 0 M[0] (by simp)
    cases h1
    rw [Addr.add_lit]
    exact sels_raw hM2 j u hu
def MovesOf (B : Nat) (v : Value) (f t : List SelL) (l : List ByteArray) (W : World) : Prop :=
  ∃ ao cap, v = .slice ao l.length cap ∧ ∀ i p, l[i]? = some p → ∃ b off, ao = some ⟨b, off, none⟩ ∧ b < B ∧ W.cell? ⟨b, off + i * 3, none⟩ = some (.string p) ∧ W.cell? ⟨b, off + i * 3 + 1, none⟩ = some (intC (plcS f p)) ∧ W.cell? ⟨b, off + i * 3 + 2, none⟩ = some (intC (plcS t p))
def movC (f t : List SelL) (p : ByteArray) : List Value := [.string p, intC (plcS f p), intC (plcS t p)]
def movCells (f t : List SelL) (l : List ByteArray) : List Value := l.flatMap (movC f t)
theorem movCells_len (f t : List SelL) : ∀ l : List ByteArray, (movCells f t l).length = l.length * 3
  | [] => rfl
  | p :: l => by
    have ih := movCells_len f t l
    unfold movCells at ih ⊢
    rw [List.flatMap_cons, List.length_append, ih]
    simp [movC]
    omega
theorem movCells_at {f t : List SelL} : ∀ {l : List ByteArray} {i : Nat} {p : ByteArray}, l[i]? = some p → ∀ j, j < 3 → (movCells f t l)[i * 3 + j]? = (movC f t p)[j]?
  | [], i, p, h, _, _ => by simp at h
  | q :: l, 0, p, h, j, hj => by
    cases h
    unfold movCells
    rw [List.flatMap_cons, Nat.zero_mul, Nat.zero_add, List.getElem?_append_left (by simpa [movC] using hj)]
  | q :: l, i + 1, p, h, j, hj => by
    have ih := movCells_at (f := f) (t := t) (l := l) (i := i) (p := p) (by simpa using h) j hj
    unfold movCells at ih ⊢
    rw [List.flatMap_cons, List.getElem?_append_right (by simp [movC]; omega)]
    simp only [movC, List.length_cons, List.length_nil] at ih ⊢
    rw [← ih]
    congr 1
    omega
theorem movCells_snoc (f t : List SelL) (l : List ByteArray) (p : ByteArray) : movCells f t (l ++ [p]) = movCells f t l ++ movC f t p := by unfold movCells; rw [List.flatMap_append]; simp
theorem own_moves {f t : List SelL} {W : World} {B : Nat} {v : Value} {l : List ByteArray} (h : W.ownsRow B 82 3 v l.length (movCells f t l)) : MovesOf W.heap.size v f t l W := by
  have hxl := movCells_len f t l
  obtain ⟨hl, ⟨rfl, h0⟩ | ⟨g, cap, cur, rfl, h1, h2, h3, h4, h5, h6⟩⟩ := h
  · obtain rfl := List.length_eq_zero_iff.1 h0
    exact ⟨none, 0, rfl, fun i q hq => by simp at hq⟩
  · refine ⟨_, cap, rfl, fun i q hq => ?_⟩
    have hi := (List.getElem?_eq_some_iff.1 hq).1
    have key : ∀ j u, j < 3 → (movC f t q)[j]? = some u → W.cell? ⟨g, 0 + i * 3 + j, none⟩ = some u := fun j u hj hu => by
      have hu2 := movCells_at (f := f) (t := t) hq j hj
      rw [hu] at hu2
      rw [cell_of_row _ _ _ _ _ _ h2, ← hu2, ← h6, List.getElem?_take, if_pos (by omega)]
      simp
    exact ⟨g, 0, rfl, (Array.getElem?_eq_some_iff.1 h2).1, key 0 _ (by omega) rfl, key 1 _ (by omega) rfl, key 2 _ (by omega) rfl⟩
theorem info_mov : (Tryz.prog.info? 82).map (fun i => (i.zero, i.size, i.bytes)) = some (some (.agg #[.string ⟨#[]⟩, .int .i64 0, .int .i64 0]), 3, 32) := by kernel_rfl
theorem info_strW : (Tryz.prog.info? 9).map (fun i => (i.zero, i.size, i.bytes)) = some (some (Value.string ⟨#[]⟩), 1, 16) := by kernel_rfl
theorem strsC_snoc (l : List ByteArray) (p : ByteArray) : strsC (l ++ [p]) = strsC l ++ [.string p] := by unfold strsC; rw [List.map_append]; rfl
theorem own_strs_at {W : World} {B : Nat} {ao : Option Addr} {n c : Nat} {l : List ByteArray} (h : W.ownsRow B 9 1 (.slice ao n c) n (strsC l)) {k : Nat} {p : ByteArray} (hk : l[k]? = some p) : ∃ g, ao = some ⟨g, 0, none⟩ ∧ g < W.heap.size ∧ W.cell? ⟨g, k, none⟩ = some (.string p) := by
  have hu : (strsC l)[k]? = some (.string p) := by unfold strsC; rw [List.getElem?_map, hk]; rfl
  obtain ⟨hl, ⟨e, h0⟩ | ⟨g, cap, cur, e, h1, h2, h3, h4, h5, h6⟩⟩ := h
  · cases e
    have := (List.getElem?_eq_some_iff.1 hu).1
    omega
  · cases e
    refine ⟨g, rfl, (Array.getElem?_eq_some_iff.1 h2).1, ?_⟩
    have hkl := (List.getElem?_eq_some_iff.1 hu).1
    rw [cell_of_row _ _ _ _ _ _ h2, ← hu, ← h6, List.getElem?_take, if_pos (by omega)]
    simp
def movK (f t : List SelL) (C : List ByteArray) (k : Nat) : List ByteArray := (C.take k).filter fun p => decide (plcS f p ≠ plcS t p)
theorem movK_len (f t : List SelL) (C : List ByteArray) (k : Nat) : (movK f t C k).length ≤ k := Nat.le_trans (List.length_filter_le _ _) (by rw [List.length_take]; omega)
theorem movK_yes {f t : List SelL} {C : List ByteArray} {k : Nat} (hk : k < C.length) (h : plcS f C[k] ≠ plcS t C[k]) : movK f t C (k + 1) = movK f t C k ++ [C[k]] := by
  unfold movK
  rw [List.take_succ_eq_append_getElem hk, List.filter_append, List.filter_cons_of_pos (by simpa using h), List.filter_nil]
theorem movK_no {f t : List SelL} {C : List ByteArray} {k : Nat} (hk : k < C.length) (h : plcS f C[k] = plcS t C[k]) : movK f t C (k + 1) = movK f t C k := by
  unfold movK
  rw [List.take_succ_eq_append_getElem hk, List.filter_append, List.filter_cons_of_neg (by simpa using h), List.filter_nil, List.append_nil]
set_option maxRecDepth 100000 in
set_option maxHeartbeats 16000000 in
theorem Moves_any (fv tv : Value) (f t : List SelL) (w : World) (hf : f.length ≤ 1000000) (ht : t.length ≤ 1000000) (hfi : incrS f) (hti : incrS t) (hfv : ∀ y ∈ f, validB y.2.1 y.2.2.1 y.2.2.2 = true) (htv : ∀ y ∈ t, validB y.2.1 y.2.2.1 y.2.2.2 = true)
    (hfp : ∀ y ∈ f, y.1.size ≤ maxLen) (htp : ∀ y ∈ t, y.1.size ≤ maxLen) (hF : SelsOf w.heap.size fv f w) (hT : SelsOf w.heap.size tv t w) :
    Calls Tryz.prog 71 #[fv, tv] w fun e w' => ∃ v, e = .returned (.tuple #[v, .int .i64 0]) ∧ MovesOf w'.heap.size v f t (movesP f t) w' ∧ Below w.heap.size w w' := by
  have HPF := Lib.hid (places_any fv f w hf hfi hfv hfp hF)
  have HPT := Lib.hid (fun W (hb : Below w.heap.size w W) => places_any tv t W ht hti htv htp (hT.on hb))
  have HCL := Lib.hid (fun W (hb : Below w.heap.size w W) => clone_sels fv f W hf (hF.on hb))
  have HTT := Lib.hid hT
  have HAL : Hid (allP f t = (movesP f t ++ []) ∨ True) := Lib.hid (.inr trivial)
  have HIA := Lib.hid (allP_inc hfi hti)
  have HPS : Hid (∀ p ∈ allP f t, p.size ≤ maxLen) := Lib.hid (fun p hp => by
    rcases mem_allP.1 hp with h | h
    · obtain ⟨y, hy⟩ := Option.ne_none_iff_exists'.1 h
      rw [← (atS_some hy).2]; exact hfp _ (atS_some hy).1
    · obtain ⟨y, hy⟩ := Option.ne_none_iff_exists'.1 h
      rw [← (atS_some hy).2]; exact htp _ (atS_some hy).1)
  have HMM : Hid (∀ p, p ∈ allP f t ↔ p ∈ (f ++ t).map (·.1)) := Lib.hid (fun p => by unfold allP; rw [mem_mergeU, List.map_append, List.mem_append])
  have HMV : Hid (movesP f t = movK f t (allP f t) (allP f t).length) := Lib.hid (by unfold movesP movK; rw [List.take_length])
  obtain ⟨fa, fc, rfl⟩ : ∃ a c, fv = .slice a f.length c := by obtain ⟨a, c, e, _⟩ := hF; exact ⟨a, c, e⟩
  obtain ⟨ta, tc, rfl⟩ : ∃ a c, tv = .slice a t.length c := by obtain ⟨a, c, e, _⟩ := hT; exact ⟨a, c, e⟩
  clear hfi hti hfv htv hfp htp hF hT HAL
  go_enter Tryz.func71, Tryz.ntmps71
  go_wp2_with fail
  refine HPF.out.mono ?_
  rintro e w1 ⟨rfl, ⟨f1, hm1, hp1⟩, hb1⟩
  have HB1 := Lib.hid hb1
  have HM1 := Lib.hid hm1
  have HP1 := Lib.hid hp1
  clear hm1 hp1 hb1 HPF
  go_wp2_with fail
  refine (HPT.out w1 HB1.out).mono ?_
  rintro e w2 ⟨rfl, ⟨f2, hm2, hp2⟩, hb2⟩
  have HB2 := Lib.hid (HB1.out.trans (hb2.mono HB1.out.size))
  have HM2 := Lib.hid hm2
  have HP2 := Lib.hid hp2
  have HM1b := Lib.hid (HM1.out.below hb2)
  obtain ⟨m1, hm1⟩ : ∃ m1, w.heap.size = m1 := ⟨_, rfl⟩
  obtain ⟨m2, hm2⟩ : ∃ m2, w1.heap.size = m2 := ⟨_, rfl⟩
  rw [hm1] at HM1b
  rw [hm2] at HM2
  have HE1 := Lib.hid hm1
  have HE2 := Lib.hid hm2
  simp only [hm1, hm2]
  clear hm1 hm2 hp2 hb2 HPT HB1 HM1
  go_wp2_with fail
  refine (HCL.out w2 HB2.out).mono ?_
  rintro e w3 ⟨v3, rfl, ho3, hb3⟩
  have HO3 := Lib.hid ho3
  have HB3 := Lib.hid (HB2.out.trans (hb3.mono HB2.out.size))
  have HBB3 := Lib.hid hb3
  have HM1c := Lib.hid (HM1b.out.below hb3)
  have HM2c := Lib.hid (HM2.out.below hb3)
  have HT3 := Lib.hid (HTT.out.on HB3.out)
  have hz3 : w2.heap.size ≤ w3.heap.size := hb3.size
  have hfl : f.length + t.length ≤ 100000000 := by omega
  have hm1l : m1 < w2.heap.size := HM1b.out.lt
  have hm2l : m2 < w2.heap.size := HM2.out.lt
  clear ho3 hb3 HCL HM1b HM2
  obtain ⟨ca, cc, rfl⟩ := own_any HO3.out
  obtain ⟨A, hA⟩ : ∃ A, f ++ t = A := ⟨_, rfl⟩
  have HAA := Lib.hid hA
  have hal : f.length + t.length = A.length := by rw [← hA, List.length_append]
  have HAL := Lib.hid hal
  have haz : A.length ≤ 100000000 := by rw [← hal]; exact hfl
  clear hA hal
  go_wp2_with (at_builtin; refine wpList_app_sels rfl _ _ rfl w2.heap.size (.slice ca f.length cc) f.length f (by rfl) HO3.out (.slice ta t.length tc) t (by rfl) HT3.out hfl hz3 ?_; intro v4 w4 hown4 hgrow4; rw [HAA.out, HAL.out] at hown4; have HO4 := Lib.hid hown4; have HG4 := Lib.hid hgrow4; clear hown4 hgrow4; obtain ⟨da, dc, rfl⟩ := own_any HO4.out)
  have HB4 : Hid (Below w.heap.size w w4) := Lib.hid (HB3.out.grown HG4.out HB3.out.size (fun b hb => by have := (own_lo HO3.out b hb).1; have := HB2.out.size; omega))
  have HM1d := Lib.hid (HM1c.out.kept HG4.out (fun e => by have := (own_lo HO3.out _ e.symm).1; omega))
  have HM2d := Lib.hid (HM2c.out.kept HG4.out (fun e => by have := (own_lo HO3.out _ e.symm).1; omega))
  have HS4 := Lib.hid (own_sels HO4.out)
  have hz4 : m1 < w4.heap.size ∧ m2 < w4.heap.size := ⟨HM1d.out.lt, HM2d.out.lt⟩
  clear HO3 HG4 HM1c HM2c HT3 HB3 HBB3 hz3 hfl hm1l hm2l HB2
  obtain ⟨s0, hs0, hsz0, hsz1, hsz2⟩ := info_parts info_strW
  obtain ⟨i0, hi0, hiz0, hiz1, hiz2⟩ := info_parts info_mov
  go_loopw [10, 39] (fun ov p wr => Hid (∃ (k : Nat), k ≤ A.length ∧ p = .int .i64 (k : Int) ∧ wr.ownsRow w4.heap.size 9 1 ov k (strsC ((A.take k).map (·.1))) ∧ Below w4.heap.size w4 wr)) (fun _ p _ => A.length - (intOf p).toNat)
  case atStart => exact Lib.hid ⟨0, Nat.zero_le _, rfl, by simpa [strsC] using World.ownsRow_nil _ _ _ _, Below.refl _ _⟩
  case round =>
    obtain ⟨k, hk, rfl, ho, hb⟩ := hrel.out
    have HO := Lib.hid ho
    have HB := Lib.hid hb
    obtain ⟨oa, oc, rfl⟩ := own_any ho
    clear hrel ho hb
    have hs8 := HB.out.size
    by_cases hlt : k < A.length
    case pos =>
      have hk0 : (0 : Int) ≤ (k : Int) := Int.natCast_nonneg k
      have hkz : (k : Int) < (A.length : Int) := Int.ofNat_lt.2 hlt
      obtain ⟨b, off, rfl, hbl, d0, d1, d2, d3⟩ := HS4.out.at hlt
      have hyk : A.getD k default = A[k] := by rw [List.getD_eq_getElem?_getD, List.getElem?_eq_getElem hlt]; rfl
      rw [hyk] at d0 d1 d2 d3
      have HTK : Hid (strsC ((A.take (k + 1)).map (·.1)) = strsC ((A.take k).map (·.1)) ++ [.string A[k].1]) := Lib.hid (by rw [List.take_succ_eq_append_getElem hlt, List.map_append]; exact strsC_snoc _ _)
      have d0 := (HB.out.cell (p := ⟨b, off + k * 4, none⟩) hbl).trans d0
      have d1 := (HB.out.cell (p := ⟨b, off + k * 4 + 1, none⟩) hbl).trans d1
      have d2 := (HB.out.cell (p := ⟨b, off + k * 4 + 2, none⟩) hbl).trans d2
      have d3 := (HB.out.cell (p := ⟨b, off + k * 4 + 3, none⟩) hbl).trans d3
      clear hyk
      generalize A[k] = y at *
      have hbq := belQ wr (.cells #[.string y.1, intC y.2.1, intC y.2.2.1, intC y.2.2.2] 53)
      have HN1 := Lib.hid (World.alloc_heap_new wr (.cells #[.string y.1, intC y.2.1, intC y.2.2.1, intC y.2.2.2] 53))
      have HB1 := Lib.hid (HB.out.trans (hbq.mono hs8))
      have HO1 := Lib.hid (own_on HO.out hbq)
      clear hbq
      go_upto_region 9 with fail
      generalize wr.alloc (.cells #[.string y.1, intC y.2.1, intC y.2.2.1, intC y.2.2.2] 53) = W1 at *
      obtain ⟨gy, hgy⟩ : ∃ gy, wr.heap.size = gy := ⟨_, rfl⟩
      rw [hgy] at HN1
      simp only [hgy]
      clear hgy d0 d1 d2 d3
      have y0 : W1.cell? ⟨gy, 0, none⟩ = some (.string y.1) := cell_of_row _ _ 0 _ _ _ HN1.out
      have hs9 := HB1.out.size
      have HN2 := Lib.hid (World.alloc_heap_new W1 (.cells #[.string y.1] 9))
      have HO2 := Lib.hid (own_on HO1.out (belQ W1 (.cells #[.string y.1] 9)))
      have HB2 := Lib.hid (HB1.out.trans ((belQ W1 (.cells #[.string y.1] 9)).mono hs9))
      have hs10 : w4.heap.size ≤ (W1.alloc (.cells #[.string y.1] 9)).heap.size := HB2.out.size
      go_wp2_with (at_builtin; refine wpList_append_own _ rfl _ _ 29 rfl w4.heap.size 9 s0 _ 1 16 Tryz.underlying29 hs0 hsz0 hsz1 hsz2 rfl (by decide) (.slice oa k oc) k _ (by rfl) HO2.out ⟨W1.heap.size, 0, none⟩ 1 1 [.string y.1] (by rfl) (by rfl) (World.news_of_block HN2.out) (by simp [Value.oneCell']) (by unfold maxLen; omega) (by omega) hs10 ?_; intro v' wB hown' hgrow _; have HOW := Lib.hid hown'; have HGR := Lib.hid hgrow; clear hown' hgrow; obtain ⟨g3, gc3, rfl⟩ := ownsRow_succ HOW.out)
      all_goals
        have HBE := Lib.hid (HB2.out.grown HGR.out hs10 (fun b hb => (own_lo HO2.out b hb).1))
        refine ⟨Lib.hid ⟨k + 1, hlt, by go_num, by rw [HTK.out]; exact HOW.out, HBE.out⟩, ?_⟩
        simp [intOf]; omega
    case neg =>
      have hkk : k = A.length := Nat.le_antisymm hk (Nat.le_of_not_lt hlt)
      clear hk
      subst hkk
      have HOL : Hid (wr.ownsRow w4.heap.size 9 1 (.slice oa (A.map (·.1)).length oc) (A.map (·.1)).length (strsC (A.map (·.1)))) := Lib.hid (by rw [List.length_map]; have := HO.out; rwa [List.take_length] at this)
      have HSO := Lib.hid (sort_strs w4.heap.size (.slice oa (A.map (·.1)).length oc) (A.map (·.1)) wr HOL.out (by rw [List.length_map]; omega))
      rw [List.length_map] at HSO HOL
      go_wp2_with fail
      refine HSO.out.mono ?_
      rintro e w5 ⟨rfl, l', hl', hll, hg5, ho5⟩
      rw [hll] at ho5
      have HL5 := Lib.hid hl'
      have HLL := Lib.hid hll
      have HB5 := Lib.hid (HB.out.grown hg5 HB.out.size (fun b hb => (own_lo HOL.out b hb).1))
      have HCS := Lib.hid (compact_strs w4.heap.size (.slice oa A.length oc) l' w5 (by rw [hll]; exact ho5) (by rw [hll]; omega))
      have HO5 := Lib.hid ho5
      clear hl' hll hg5 ho5 HSO HO
      go_wp2_with fail
      refine HCS.out.mono ?_
      rintro e w6 ⟨v6, l6, rfl, hl60, hle6, ⟨xa, xc, rfl⟩, hg6, ho6⟩
      obtain ⟨C, hC⟩ : ∃ C, allP f t = C := ⟨_, rfl⟩
      have hl6 : l6 = C := by rw [hl60, HL5.out, ← hC]; exact sort_compact HIA.out (fun p => by rw [HMM.out p, HAA.out])
      subst hl6
      clear hl60
      have hcl : l6.length ≤ 100000000 := by have h := HLL.out; omega
      rw [hC] at HPS HMV
      have HB6 := Lib.hid (HB5.out.grown hg6 HB5.out.size (fun b hb => (own_lo HO5.out b hb).1))
      have HO6 := Lib.hid ho6
      have hm1w : m1 < w4.heap.size := hz4.1
      have hm2w : m2 < w4.heap.size := hz4.2
      have HM1e := Lib.hid (HM1d.out.below (HB6.out))
      have HM2e := Lib.hid (HM2d.out.below (HB6.out))
      have hs6 := HB6.out.size
      have HBW6 : Hid (Below w.heap.size w w6) := Lib.hid (HB4.out.trans (HB6.out.mono HB4.out.size))
      clear hle6 hg6 ho6 HCS HO5 HB5 HOL HL5 HLL HIA HMM HM1d HM2d HB hC hs8
      go_wp2_with fail
      go_loopw [14, 54] (fun ov p wr => Hid (∃ (k : Nat), k ≤ l6.length ∧ p = .int .i64 (k : Int) ∧ wr.ownsRow w6.heap.size 82 3 ov (movK f t l6 k).length (movCells f t (movK f t l6 k)) ∧ Below w6.heap.size w6 wr)) (fun _ p _ => l6.length - (intOf p).toNat)
      case atStart => exact Lib.hid ⟨0, Nat.zero_le _, rfl, World.ownsRow_nil _ _ _ _, Below.refl _ _⟩
      case round =>
        obtain ⟨k, hk, rfl, ho, hb⟩ := hrel.out
        have HO := Lib.hid ho
        have HB := Lib.hid hb
        obtain ⟨oa2, oc2, rfl⟩ := own_any ho
        clear hrel ho hb
        have hs8 := HB.out.size
        by_cases hlt : k < l6.length
        case neg =>
          have hkk : k = l6.length := Nat.le_antisymm hk (Nat.le_of_not_lt hlt)
          clear hk
          subst hkk
          have HRE : Hid (MovesOf wr.heap.size (.slice oa2 (movK f t l6 l6.length).length oc2) f t (movesP f t) wr) := Lib.hid (by rw [HMV.out]; exact own_moves HO.out)
          have HBE := Lib.hid (HBW6.out.trans (HB.out.mono HBW6.out.size))
          clear HO HMV
          generalize movK f t l6 l6.length = M at *
          go_wp2_with fail
          go_ret2
          exact ⟨_, rfl, HRE.out, HBE.out⟩
        case pos =>
          have hk0 : (0 : Int) ≤ (k : Int) := Int.natCast_nonneg k
          have hkz : (k : Int) < (l6.length : Int) := Int.ofNat_lt.2 hlt
          obtain ⟨g, e2, hgl, q0⟩ := own_strs_at HO6.out (List.getElem?_eq_getElem hlt)
          subst e2
          have q0 := (HB.out.cell (p := ⟨g, k, none⟩) hgl).trans q0
          have HYES : Hid (plcS f l6[k] ≠ plcS t l6[k] → movK f t l6 (k + 1) = movK f t l6 k ++ [l6[k]]) := Lib.hid (movK_yes hlt)
          have HNO : Hid (plcS f l6[k] = plcS t l6[k] → movK f t l6 (k + 1) = movK f t l6 k) := Lib.hid (movK_no hlt)
          have hps := HPS.out _ (List.getElem_mem hlt)
          have hml := movK_len f t l6 k
          generalize l6[k] = p at *
          have HC1 := Lib.hid (moves1_any f p m1 f1 wr (HM1e.out.below HB.out) HP1.out hps)
          have HC2 := Lib.hid (moves1_any t p m2 f2 wr (HM2e.out.below HB.out) HP2.out hps)
          have HMC : Hid (movC f t p = [.string p, intC (plcS f p), intC (plcS t p)]) := Lib.hid rfl
          generalize plcS f p = x at *
          generalize plcS t p = z at *
          have hbq := belQ wr (.cells #[.string p, intC x, intC z] 82)
          have HN1 := Lib.hid (World.alloc_heap_new wr (.cells #[.string p, intC x, intC z] 82))
          have HB1 := Lib.hid (HB.out.trans (hbq.mono hs8))
          have HO1 := Lib.hid (own_on HO.out hbq)
          clear hbq
          go_upto_region 18 with (go_at_call 98; first | (with_reducible refine HC1.out.mono ?_; rintro e w' ⟨rfl, hww⟩; replace hww := hww.symm; subst hww) | (with_reducible refine HC2.out.mono ?_; rintro e w' ⟨rfl, hww⟩; replace hww := hww.symm; subst hww))
          generalize wr.alloc (.cells #[.string p, intC x, intC z] 82) = W1 at *
          obtain ⟨gy, hgy⟩ : ∃ gy, wr.heap.size = gy := ⟨_, rfl⟩
          rw [hgy] at HN1
          try simp only [hgy]
          clear hgy q0
          have y0 : W1.cell? ⟨gy, 0, none⟩ = some (.string p) := cell_of_row _ _ 0 _ _ _ HN1.out
          have y1 : W1.cell? ⟨gy, 1, none⟩ = some (intC x) := cell_of_row _ _ 1 _ _ _ HN1.out
          have y2 : W1.cell? ⟨gy, 2, none⟩ = some (intC z) := cell_of_row _ _ 2 _ _ _ HN1.out
          have hs9 := HB1.out.size
          by_cases hxz : x = z
          case pos =>
            have hb1 : (x != z) = false := by simpa using hxz
            have HN := Lib.hid (HNO.out hxz)
            clear hxz HYES HNO
            go_wp2_with fail
            all_goals
              refine ⟨Lib.hid ⟨k + 1, hlt, by go_num, by rw [HN.out]; exact HO1.out, HB1.out⟩, ?_⟩
              simp [intOf]; omega
          case neg =>
            have hb1 : (x != z) = true := by simpa using hxz
            have HY := Lib.hid (HYES.out hxz)
            have HYL : Hid ((movK f t l6 (k + 1)).length = (movK f t l6 k).length + 1) := Lib.hid (by rw [HY.out, List.length_append]; rfl)
            clear hxz HYES HNO
            have HN2 := Lib.hid (World.alloc_heap_new W1 (.cells #[.string p, intC x, intC z] 82))
            have HO2 := Lib.hid (own_on HO1.out (belQ W1 (.cells #[.string p, intC x, intC z] 82)))
            have HB2 := Lib.hid (HB1.out.trans ((belQ W1 (.cells #[.string p, intC x, intC z] 82)).mono hs9))
            have hs10 : w6.heap.size ≤ (W1.alloc (.cells #[.string p, intC x, intC z] 82)).heap.size := HB2.out.size
            generalize hK : movK f t l6 k = K at *
            clear hK
            go_wp2_with (at_builtin; refine wpList_append_own _ rfl _ _ 78 rfl w6.heap.size 82 i0 _ 3 32 Tryz.underlying78 hi0 hiz0 hiz1 hiz2 rfl (by decide) (.slice oa2 K.length oc2) K.length _ (by rfl) HO2.out ⟨W1.heap.size, 0, none⟩ 1 1 [.string p, intC x, intC z] (by rfl) (by rfl) (World.news_of_block HN2.out) (by simp [Value.oneCell']) (by unfold maxLen; omega) (by omega) hs10 ?_; intro v' wB hown' hgrow _; have HOW := Lib.hid hown'; have HGR := Lib.hid hgrow; clear hown' hgrow; obtain ⟨g3, gc3, rfl⟩ := ownsRow_succ HOW.out)
            all_goals
              have HBE := Lib.hid (HB2.out.grown HGR.out hs10 (fun b hb => (own_lo HO2.out b hb).1))
              have HOE : Hid (wB.ownsRow w6.heap.size 82 3 (.slice (some ⟨g3, 0, none⟩) (K.length + 1) gc3) (movK f t l6 (k + 1)).length (movCells f t (movK f t l6 (k + 1)))) := Lib.hid (by rw [HYL.out, HY.out, movCells_snoc, HMC.out]; exact HOW.out)
              refine ⟨Lib.hid ⟨k + 1, hlt, by go_num, HOE.out, HBE.out⟩, ?_⟩
              simp [intOf]; omega
end Go.Proofs.YtnjiibiafhnmgaaGreatDoor
