/- Contracts of package waves: Groups, Waves. The library's SortFunc at selections, by their paths; the closure of between. -/
import Derived.Test.YtnjiibiafhnmgaaGreatDoorZL
import Derived.Test.YtnjiibiafhnmgaaGreatDoorZE
import Derived.Test.YtnjiibiafhnmgaaGreatDoorZM
import Derived.Test.YtnjiibiafhnmgaaGreatDoorYG
import Derived.Test.YtnjiibiafhnmgaaGreatDoorYQ
import Derived.Test.YtnjiibiafhnmgaaGreatDoorMore2
import Derived.Test.YtnjiibiafhnmgaaGreatDoorYT
namespace Go.Proofs.YtnjiibiafhnmgaaGreatDoor
open Go Go.RowKit Go.Maps

theorem pigeon {α β : Type} [DecidableEq β] (R : α → β → Prop) : ∀ (l : List α) (m : List β), l.Nodup → (∀ a ∈ l, ∃ b ∈ m, R a b) → (∀ a ∈ l, ∀ c ∈ l, ∀ b, R a b → R c b → a = c) → l.length ≤ m.length
  | [], m, _, _, _ => Nat.zero_le _
  | a :: l, m, hn, h1, h2 => by
    obtain ⟨b, hb, hab⟩ := h1 a (by simp)
    have hn2 := List.nodup_cons.1 hn
    have ih := pigeon R l (m.erase b) hn2.2 (fun c hc => by
      obtain ⟨d, hd, hcd⟩ := h1 c (by simp [hc])
      have hne : d ≠ b := fun e => by
        subst e
        have := h2 a (by simp) c (by simp [hc]) d hab hcd
        subst this
        exact hn2.1 hc
      exact ⟨d, (List.mem_erase_of_ne hne).2 hd, hcd⟩) (fun c hc d hd x => h2 c (by simp [hc]) d (by simp [hd]) x)
    have := List.length_erase_of_mem hb
    have := List.length_pos_of_mem hb
    simp only [List.length_cons]
    omega
theorem pairs_len {α : Type} (n : Nat) : ∀ K : List α, (K.flatMap fun y => (List.range n).map fun j => (y, j)).length = K.length * n
  | [] => by simp
  | y :: K => by rw [List.flatMap_cons, List.length_append, pairs_len n K, List.length_map, List.length_range, List.length_cons, Nat.succ_mul]; omega
theorem plc_at {f t : List SelL} {p : ByteArray} (h : atS f p = atS t p) : plcS f p = plcS t p := by unfold plcS; rw [h]
theorem wavE_small {X : List RelL} {f t : List SelL} (h : errW X f t = 0) : (wavE X f t).length ≤ 4096 := by
  obtain ⟨hf, ht⟩ := errW_parts h
  obtain ⟨hcx, hif, hff⟩ := cons_parts hf
  obtain ⟨_, hit, hft⟩ := cons_parts ht
  have hinc := movesP_inc hif hit
  have hk : ∀ (s : List SelL), (∀ y ∈ s, (findR X y).isSome = true) → ∀ y ∈ s, y ∈ X.map keyL := fun s hs y hy => by
    obtain ⟨x, hx⟩ := Option.isSome_iff_exists.1 (hs y hy)
    have hm : x ∈ X := List.mem_of_find?_eq_some hx
    have hk : keyL x = y := by have := List.find?_some hx; simpa using this
    exact List.mem_map.2 ⟨x, hm, hk⟩
  have hlen := check_len hcx
  classical
  have key := pigeon (fun (e : Int × Int) (z : SelL × Nat) => ∃ i k : Nat, e = ((i : Int), (k : Int)) ∧ i < (movesP f t).length ∧ k < (movesP f t).length ∧
      ((atS t ((movesP f t).getD i default) = some z.1 ∧ ∃ q, (reqsOf X z.1)[z.2]? = some q ∧ q.1 = (movesP f t).getD k default) ∨ (atS f ((movesP f t).getD k default) = some z.1 ∧ ∃ q, (reqsOf X z.1)[z.2]? = some q ∧ q.1 = (movesP f t).getD i default)))
    (wavE X f t) ((X.map keyL).flatMap fun y => (List.range 16).map fun j => (y, j)) (wavE_nodup X f t) (fun e he => by
      obtain ⟨i, k, hi, hk2, hn, rfl⟩ := mem_wavE.1 he
      unfold needB at hn
      rw [Bool.and_eq_true, Bool.or_eq_true] at hn
      rcases hn.2 with hc | hc
      · obtain ⟨y, hy, q, hq, hqb, _⟩ := clash_iff.1 hc
        obtain ⟨j, hj, e⟩ := List.mem_iff_getElem.1 hq
        have hr := reqsOf_len hcx y
        exact ⟨(y, j), List.mem_flatMap.2 ⟨y, hk t hft y (atS_some hy).1, List.mem_map.2 ⟨j, List.mem_range.2 (by omega), rfl⟩⟩, i, k, rfl, hi, hk2, .inl ⟨hy, q, by rw [List.getElem?_eq_getElem hj, e], hqb⟩⟩
      · obtain ⟨y, hy, q, hq, hqb, _⟩ := clash_iff.1 hc
        obtain ⟨j, hj, e⟩ := List.mem_iff_getElem.1 hq
        have hr := reqsOf_len hcx y
        exact ⟨(y, j), List.mem_flatMap.2 ⟨y, hk f hff y (atS_some hy).1, List.mem_map.2 ⟨j, List.mem_range.2 (by omega), rfl⟩⟩, i, k, rfl, hi, hk2, .inr ⟨hy, q, by rw [List.getElem?_eq_getElem hj, e], hqb⟩⟩) (fun e _ e' _ z h1 h2 => by
      obtain ⟨i, k, rfl, hi, hk1, h1⟩ := h1
      obtain ⟨i', k', rfl, hi', hk', h2⟩ := h2
      have mix : ∀ {i k : Nat}, k < (movesP f t).length → atS t ((movesP f t).getD i default) = some z.1 → atS f ((movesP f t).getD k default) = some z.1 → False := fun {i k} hk1 a1 a2 => by
        have e1 := (atS_some a1).2
        have e2 := (atS_some a2).2
        rw [← e1, e2] at a1
        have hm : (movesP f t).getD k default ∈ movesP f t := by rw [List.getD_eq_getElem?_getD, List.getElem?_eq_getElem hk1]; exact List.getElem_mem hk1
        exact (mem_movesP.1 hm) (plc_at (by rw [a2]; exact a1.symm))
      rcases h1 with ⟨a1, q, hq, b1⟩ | ⟨a1, q, hq, b1⟩ <;> rcases h2 with ⟨a2, q', hq', b2⟩ | ⟨a2, q', hq', b2⟩
      · rw [hq] at hq'; cases hq'
        have e1 := hinc.inj hi hi' ((atS_some a1).2.symm.trans (atS_some a2).2)
        have e2 := hinc.inj hk1 hk' (b1.symm.trans b2)
        rw [e1, e2]
      · exact (mix hk' a1 a2).elim
      · exact (mix hk1 a2 a1).elim
      · rw [hq] at hq'; cases hq'
        have e1 := hinc.inj hk1 hk' ((atS_some a1).2.symm.trans (atS_some a2).2)
        have e2 := hinc.inj hi hi' (b1.symm.trans b2)
        rw [e1, e2])
  rw [pairs_len, List.length_map] at key
  omega
theorem moves_small {X : List RelL} {f t : List SelL} (h : errW X f t = 0) : (movesP f t).length ≤ 512 := by
  have h1 := cons_len (errW_parts h).1
  have h2 := cons_len (errW_parts h).2
  have h3 := movesP_len f t
  omega
theorem wavE_valid {X : List RelL} {f t : List SelL} (h : errW X f t = 0) : validG (movesP f t).length (wavE X f t) = true := by
  have h1 := moves_small h
  have h2 := wavE_small h
  unfold validG
  rw [Bool.and_eq_true, Bool.and_eq_true, decide_eq_true_iff, decide_eq_true_iff, List.all_eq_true]
  refine ⟨⟨by omega, h2⟩, fun e he => ?_⟩
  obtain ⟨i, k, hi, hk, _, rfl⟩ := mem_wavE.1 he
  rw [decide_eq_true_iff]
  omega
theorem part_rows {N : Nat} {es : List (Int × Int)} {L : List (List Nat)} {pos : Nat → Nat} (h : PartP N es L pos) : (∀ l ∈ L, ∀ n ∈ l, n < N) ∧ ∀ l ∈ L, l.length ≤ N := by
  have h1 : ∀ l ∈ L, ∀ n ∈ l, n < N := fun l hl n hn => by
    obtain ⟨i, hi, e⟩ := List.mem_iff_getElem.1 hl
    exact ((h.mem i l (by rw [List.getElem?_eq_getElem hi, e]) n).1 hn).1
  refine ⟨h1, fun l hl => ?_⟩
  obtain ⟨i, hi, e⟩ := List.mem_iff_getElem.1 hl
  have hs := (h.srt i l (by rw [List.getElem?_eq_getElem hi, e])).1
  have hn : l.Nodup := hs.imp fun {a b} hab => Nat.ne_of_lt hab
  have := sub_length hn (m := List.range N) (fun a ha => List.mem_range.2 (h1 l hl a ha))
  rwa [List.length_range] at this
theorem comps_rows (N : Nat) (es : List (Int × Int)) : (∀ l ∈ compsG N es, ∀ n ∈ l, n < N) ∧ (∀ l ∈ compsG N es, l.length ≤ N) ∧ (compsG N es).length ≤ N := by
  obtain ⟨pos, h⟩ := comps_comp N es
  exact ⟨(part_rows h.part).1, (part_rows h.part).2, by rw [comps_len]; exact (nodesG_len (numbered N es)).1⟩
theorem levels_rows (N : Nat) (es : List (Int × Int)) : (∀ l ∈ levelsG N es, ∀ n ∈ l, n < N) ∧ (∀ l ∈ levelsG N es, l.length ≤ N) ∧ (levelsG N es).length ≤ N := by
  obtain ⟨pos, h⟩ := levels_part N es
  exact ⟨(part_rows h).1, (part_rows h).2, Nat.le_trans (levels_len N es) (comps_rows N es).2.2⟩
noncomputable def grpV (X : List RelL) (f t : List SelL) : List (List ByteArray) := if errW X f t = 0 then grpW X f t else []
set_option maxRecDepth 100000 in
set_option maxHeartbeats 8000000 in
theorem Groups_any (v iv fv tv : Value) (X : List RelL) (f t : List SelL) (w : World) (hm : MaxOk w) (hX : X.length ≤ 1000000) (hq : ∀ x ∈ X, RelBd x) (hR : RelsOf w.heap.size v X w)
    (hf : f.length ≤ 1000000) (hfy : ∀ y ∈ f, SelBd y) (hF : SelsOf w.heap.size fv f w) (ht : t.length ≤ 1000000) (hty : ∀ y ∈ t, SelBd y) (hT : SelsOf w.heap.size tv t w) :
    Calls Tryz.prog 14 #[.agg #[v, iv], fv, tv] w (NamedR w (grpV X f t) (errW X f t)) := by
  have HNA := Lib.hid (fun W (hb : RowKit.Below w.heap.size w W) => named_any 47 (enters_of Tryz.func47 (by kernel_rfl) rfl) v iv fv tv X f t W
    (fun W2 h2 => have hb2 := hb.trans (h2.mono hb.size); Graph_any v iv fv tv X f t W2 (hm.below hb2 hm.pos) hX hq (hR.on hb2) hf hfy (hF.on hb2) ht hty (hT.on hb2))
    (by obtain ⟨a, c, _, e, _⟩ := hR.rv; exact ⟨_, _, _, e⟩) (by obtain ⟨a, c, e, _⟩ := hF; exact ⟨a, _, c, e⟩) (by obtain ⟨a, c, e, _⟩ := hT; exact ⟨a, _, c, e⟩)
    (movesP f t) rfl (compsG (movesP f t).length (wavE X f t)) (fun _ => (comps_rows _ _).1) (fun h => by
      have h1 := moves_small h
      obtain ⟨_, h2, h3⟩ := comps_rows (movesP f t).length (wavE X f t)
      exact ⟨by omega, fun l hl => by have := h2 l hl; omega⟩)
    (fun h W2 nv ev hn he => Components_yes nv ev (movesP f t) (wavE X f t) W2 he hn (wavE_valid h) (numbered _ _)))
  have HVV : Hid ((if errW X f t = 0 then nameL (movesP f t) (compsG (movesP f t).length (wavE X f t)) else []) = grpV X f t) := Lib.hid rfl
  rw [HVV.out] at HNA
  clear HVV
  obtain ⟨va, vn, vc, rfl⟩ : ∃ a n c, v = .slice a n c := by obtain ⟨a, c, _, e, _⟩ := hR.rv; exact ⟨_, _, _, e⟩
  obtain ⟨fa, fc, rfl⟩ : ∃ a c, fv = .slice a f.length c := by obtain ⟨a, c, e, _⟩ := hF; exact ⟨a, c, e⟩
  obtain ⟨ta, tc, rfl⟩ : ∃ a c, tv = .slice a t.length c := by obtain ⟨a, c, e, _⟩ := hT; exact ⟨a, c, e⟩
  clear hm hq hR hF hT hfy hty
  have HB0 := Lib.hid (IdxBx.start w (.slice va vn vc) iv)
  unfold NamedR at HNA ⊢
  generalize grpV X f t = LL at *
  generalize errW X f t = E at *
  go_enter Tryz.func14, Tryz.ntmps14
  go_upto_region 1 with fail
  generalize w.alloc (.cells #[.slice va vn vc, iv] 25) = W at *
  have c0 := HB0.out.c0
  have c1 := HB0.out.c1
  go_wp2_with fail
  refine (HNA.out _ HB0.out.bel).mono ?_
  rintro e w1 ⟨nv, rfl, hnm, hb1⟩
  have HB1 := Lib.hid (HB0.out.below hb1)
  have HNM := Lib.hid hnm
  clear hnm hb1 c0 c1 HNA
  go_wp2_with fail
  go_ret2
  exact ⟨_, rfl, HNM.out, HB1.out.bel⟩
noncomputable def wavV (X : List RelL) (f t : List SelL) : List (List ByteArray) := if errW X f t = 0 then wavW X f t else []
set_option maxRecDepth 100000 in
set_option maxHeartbeats 8000000 in
theorem Waves_any (v iv fv tv : Value) (X : List RelL) (f t : List SelL) (w : World) (hm : MaxOk w) (hX : X.length ≤ 1000000) (hq : ∀ x ∈ X, RelBd x) (hR : RelsOf w.heap.size v X w)
    (hf : f.length ≤ 1000000) (hfy : ∀ y ∈ f, SelBd y) (hF : SelsOf w.heap.size fv f w) (ht : t.length ≤ 1000000) (hty : ∀ y ∈ t, SelBd y) (hT : SelsOf w.heap.size tv t w) :
    Calls Tryz.prog 16 #[.agg #[v, iv], fv, tv] w (NamedR w (wavV X f t) (errW X f t)) := by
  have HNA := Lib.hid (fun W (hb : RowKit.Below w.heap.size w W) => named_any 50 (enters_of Tryz.func50 (by kernel_rfl) rfl) v iv fv tv X f t W
    (fun W2 h2 => have hb2 := hb.trans (h2.mono hb.size); Graph_any v iv fv tv X f t W2 (hm.below hb2 hm.pos) hX hq (hR.on hb2) hf hfy (hF.on hb2) ht hty (hT.on hb2))
    (by obtain ⟨a, c, _, e, _⟩ := hR.rv; exact ⟨_, _, _, e⟩) (by obtain ⟨a, c, e, _⟩ := hF; exact ⟨a, _, c, e⟩) (by obtain ⟨a, c, e, _⟩ := hT; exact ⟨a, _, c, e⟩)
    (movesP f t) rfl (levelsG (movesP f t).length (wavE X f t)) (fun _ => (levels_rows _ _).1) (fun h => by
      have h1 := moves_small h
      obtain ⟨_, h2, h3⟩ := levels_rows (movesP f t).length (wavE X f t)
      exact ⟨by omega, fun l hl => by have := h2 l hl; omega⟩)
    (fun h W2 nv ev hn he => Levels_yes nv ev (movesP f t) (wavE X f t) W2 he hn (wavE_valid h) (numbered _ _)))
  have HVV : Hid ((if errW X f t = 0 then nameL (movesP f t) (levelsG (movesP f t).length (wavE X f t)) else []) = wavV X f t) := Lib.hid rfl
  rw [HVV.out] at HNA
  clear HVV
  obtain ⟨va, vn, vc, rfl⟩ : ∃ a n c, v = .slice a n c := by obtain ⟨a, c, _, e, _⟩ := hR.rv; exact ⟨_, _, _, e⟩
  obtain ⟨fa, fc, rfl⟩ : ∃ a c, fv = .slice a f.length c := by obtain ⟨a, c, e, _⟩ := hF; exact ⟨a, c, e⟩
  obtain ⟨ta, tc, rfl⟩ : ∃ a c, tv = .slice a t.length c := by obtain ⟨a, c, e, _⟩ := hT; exact ⟨a, c, e⟩
  clear hm hq hR hF hT hfy hty
  have HB0 := Lib.hid (IdxBx.start w (.slice va vn vc) iv)
  unfold NamedR at HNA ⊢
  generalize wavV X f t = LL at *
  generalize errW X f t = E at *
  go_enter Tryz.func16, Tryz.ntmps16
  go_upto_region 1 with fail
  generalize w.alloc (.cells #[.slice va vn vc, iv] 25) = W at *
  have c0 := HB0.out.c0
  have c1 := HB0.out.c1
  go_wp2_with fail
  refine (HNA.out _ HB0.out.bel).mono ?_
  rintro e w1 ⟨nv, rfl, hnm, hb1⟩
  have HB1 := Lib.hid (HB0.out.below hb1)
  have HNM := Lib.hid hnm
  clear hnm hb1 c0 c1 HNA
  go_wp2_with fail
  go_ret2
  exact ⟨_, rfl, HNM.out, HB1.out.bel⟩
end Go.Proofs.YtnjiibiafhnmgaaGreatDoor

namespace Go.Proofs.YtnjiibiafhnmgaaGreatDoor
open Go Go.RowKit Go.Sort Go.Lib

def cfQ (x y : SelL) : Int := if ltB x.1 y.1 = true then -1 else 1
theorem ltQ (x y : SelL) : ltOf cfQ x y = ltB x.1 y.1 := by
  unfold ltOf cfQ
  cases ltB x.1 y.1 <;> simp
theorem ltB_irr (a : ByteArray) : ltB a a = false := by
  cases h : ltB a a with
  | false => rfl
  | true => have := ltB_asymm h; rw [h] at this; cases this
theorem swoQ : SWO (ltOf cfQ) where
  irrefl x := by rw [ltQ]; exact ltB_irr _
  trans x y z h1 h2 := by rw [ltQ] at *; exact ltB_trans h1 h2
  ntrans x y z h1 h2 := by
    rw [ltQ] at *
    cases h : ltB x.1 z.1 with
    | false => rfl
    | true =>
      cases h3 : ltB y.1 x.1 with
      | true => have := ltB_trans h3 h; rw [h2] at this; cases this
      | false => rw [ltB_tri h1 h3] at h; rw [h2] at h; cases h

set_option maxHeartbeats 1000000 in
theorem selCmp_any (x y : SelL) (W : World) : Calls Tryz.prog 92 #[.agg #[.string x.1, intC x.2.1, intC x.2.2.1, intC x.2.2.2], .agg #[.string y.1, intC y.2.1, intC y.2.2.1, intC y.2.2.2]] W fun e w' => e = .returned (.int .i64 (cfQ x y)) ∧ ∃ q os', w' = grow (W.drewN q) os' := by
  obtain ⟨x1, xa, xn, xc⟩ := x
  obtain ⟨y1, ya, yn, yc⟩ := y
  unfold cfQ
  simp only
  cases h : ltB x1 y1 with
  | true =>
    have h2 : Op.bytesLess x1.toList y1.toList = true := h
    clear h
    go_enter Tryz.func92, Tryz.ntmps92
    go_wp2_with fail
    go_ret
    exact ⟨rfl, 0, _, by rw [alloc_eq_grow, alloc_eq_grow, grow_grow]; rfl⟩
  | false =>
    have h2 : Op.bytesLess x1.toList y1.toList = false := h
    clear h
    go_enter Tryz.func92, Tryz.ntmps92
    go_wp2_with fail
    go_ret
    exact ⟨rfl, 0, _, by rw [alloc_eq_grow, alloc_eq_grow, grow_grow]; rfl⟩
theorem flat_sels (d : Array SelL) : flatK selC 4 d = (selCells d.toList).toArray := by
  apply Array.ext
  · rw [size_flatK]; simp [selCells_len]
  · intro t h1 h2
    rw [size_flatK] at h1
    have e : (flatK selC 4 d)[t] = (flatK selC 4 d)[t]! := (getElem!_pos _ t (by rw [size_flatK]; exact h1)).symm
    rw [e, get_flatK _ _ _ _ h1, List.getElem_toArray]
    have ht : t / 4 < d.size := by omega
    have hm : t % 4 < 4 := Nat.mod_lt _ (by omega)
    have ha := selCells_at (l := d.toList) (i := t / 4) (j := t % 4) (by simpa using ht) hm
    rw [show t / 4 * 4 + t % 4 = t by omega] at ha
    rw [getElem!_pos d (t / 4) ht]
    have hd : d.toList.getD (t / 4) default = d[t / 4] := by rw [List.getD_eq_getElem?_getD, List.getElem?_eq_getElem (by simpa using ht)]; simp
    rw [hd] at ha
    have hl : (selC d[t / 4]).length = 4 := rfl
    rw [getElem!_pos (selC d[t / 4]) (t % 4) (by omega)]
    have h2' : t < (selCells d.toList).length := by simpa using h2
    rw [List.getElem?_eq_getElem h2', List.getElem?_eq_getElem (by omega)] at ha
    exact (Option.some.inj ha).symm
set_option maxRecDepth 100000 in
set_option maxHeartbeats 2000000 in
theorem sortFunc_sels (blk cap : Nat) (d : Array SelL) (w : World) (hH : HoldsK selC 4 w blk 0 d) (hblk : blk < w.heap.size) (hsz : d.size < 4611686018427387904) :
    Calls Tryz.prog 91 #[.slice (some ⟨blk, 0, none⟩) d.size cap, .func (.func 92) #[] #[]] w fun e w' =>
      e = .returned (.tuple #[]) ∧ ∃ d' n os, PermIn 0 d.size d d' ∧ SortedIn (ltOf cfQ) 0 d.size d' ∧ w' = sortWorldK selC 4 w blk 0 n d' os := by
  have eg : ∀ args w, (callFunc 92 args).run Tryz.prog w = .ok (.enter 92 args) w := enters_of Tryz.func92 (by kernel_rfl) rfl
  have hcmp : CmpLays Tryz.prog 92 #[] selC 4 cfQ blk 0 d.size w := fun _ _ _ _ x y => selCmp_any x y _
  have hk : ∀ x : SelL, (selC x).length = 4 := fun _ => rfl
  have h1 : ∀ x : SelL, ∀ v ∈ selC x, v.oneCell' = true := fun x v hv => by
    unfold selC at hv
    simp only [List.mem_cons, List.not_mem_nil, or_false] at hv
    rcases hv with rfl | rfl | rfl | rfl <;> rfl
  have hlim : Lib.bitLen d.size < 4611686018427387904 := Nat.lt_of_le_of_lt (Lib.bitLen_le d.size 62 (by omega) (by omega)) (by omega)
  have hp := AnyQ.pdqsortCmpFunc_all (P := Tryz.prog) (ρ := Tryz.pdqSel_ren) Tryz.pdqSel 4 Tryz.isAgg53 Tryz.sizeOf53 selC cfQ 92 #[] swoQ blk 0 cap d w eg hcmp ⟨hk, h1, hH, hblk⟩ (d.size + 1) 0 d.size (Lib.bitLen d.size) d w (by omega) rfl (SWK.start hH) (Nat.zero_le _) (Nat.le_refl _) hsz hlim (Or.inl rfl)
  change Calls Tryz.prog 124 _ _ _ at hp
  have hl : Calls Tryz.prog 95 #[.int .u64 (d.size : Int)] w fun e w' => e = .returned (.int .i64 (Lib.bitLen d.size : Nat)) ∧ w' = w := by
    have h := Tryz.bits_Len (d.size : Int) w (by omega) (by omega)
    rwa [Int.toNat_natCast] at h
  have wr : IntKind.u64.wrap (d.size : Int) = d.size := by simp [IntKind.wrap, IntKind.bits, IntKind.signed]; omega
  have HP := Lib.hid hp
  have HL := Lib.hid hl
  clear hH hcmp hk h1 hp hl eg
  go_enter Tryz.func91, Tryz.ntmps91
  go_wp2_with fail
  refine HL.out.mono ?_
  rintro e w' ⟨rfl, rfl⟩
  go_wp2_with fail
  refine HP.out.mono ?_
  rintro e w' ⟨rfl, n, os, rfl⟩
  go_wp2_with fail
  go_end0
  have h := pdq_sorts (ltOf cfQ) swoQ d 0 d.size (Lib.bitLen d.size) true true (Nat.zero_le _) (Nat.le_refl _) (Or.inl rfl)
  exact ⟨rfl, _, n, os, h.1, h.2, rfl⟩
set_option maxHeartbeats 1000000 in
theorem insSel_none (p : Option Addr) (cap : Nat) (fv : Value) (w : World) :
    Calls Tryz.prog 163 #[.slice p 0 cap, .int .i64 0, .int .i64 0, fv] w fun e w' => e = .returned (.tuple #[]) ∧ w' = w := by
  go_enter Tryz.func163, Tryz.ntmps163
  go_wp2_with fail
  go_loopw [8] (fun i wr => i = .int .i64 1 ∧ wr = w) (fun _ _ => 0)
  case atStart => exact ⟨rfl, rfl⟩
  case round =>
    obtain ⟨rfl, rfl⟩ := hrel
    go_wp2_with fail
    go_end0
    exact ⟨rfl, rfl⟩
set_option maxHeartbeats 1000000 in
theorem pdqSel_none (p : Option Addr) (cap : Nat) (lim : Int) (fv : Value) (w : World) :
    Calls Tryz.prog 124 #[.slice p 0 cap, .int .i64 0, .int .i64 0, .int .i64 lim, fv] w fun e w' => e = .returned (.tuple #[]) ∧ w' = w := by
  have HI := Lib.hid (insSel_none p cap fv w)
  go_enter Tryz.func124, Tryz.ntmps124
  go_wp2_with fail
  go_loopw [1, 2, 3, 10, 11] (fun x y l b1 b2 wr => x = .int .i64 0 ∧ y = .int .i64 0 ∧ l = .int .i64 lim ∧ b1 = .bool true ∧ b2 = .bool true ∧ wr = w) (fun _ _ _ _ _ _ => 0)
  case atStart => exact ⟨rfl, rfl, rfl, rfl, rfl, rfl⟩
  case round =>
    obtain ⟨rfl, rfl, rfl, rfl, rfl, rfl⟩ := hrel
    go_wp2_with fail
    refine HI.out.mono ?_
    rintro e w' ⟨rfl, rfl⟩
    go_wp2_with fail
    refine bodyPost_ret (results_none rfl _ _ _) rfl ?_
    exact ⟨rfl, rfl⟩
theorem sort_sels (B : Nat) (v : Value) (l : List SelL) (w : World) (h : w.ownsRow B 53 4 v l.length (selCells l)) (hl : l.length ≤ 1000000000) :
    Calls Tryz.prog 91 #[v, .func (.func 92) #[] #[]] w fun e w' => e = .returned (.tuple #[]) ∧
      ∃ l' : List SelL, l'.Perm l ∧ l'.Pairwise (fun a b => ltB b.1 a.1 = false) ∧ w.grownBy w' v.ownBlock ∧ w'.ownsRow B 53 4 v l.length (selCells l') := by
  rcases h.2 with ⟨rfl, h0⟩ | ⟨g, cap, cur, rfl, hbg, hg, hc, hcm, hcs, ht⟩
  · obtain rfl : l = [] := List.length_eq_zero_iff.1 h0
    have hl : Calls Tryz.prog 95 #[.int .u64 0] w fun e w' => e = .returned (.int .i64 ((Lib.bitLen 0 : Nat) : Int)) ∧ w' = w := Tryz.bits_Len 0 w (by omega) (by omega)
    have hp := pdqSel_none none 0 ((Lib.bitLen 0 : Nat) : Int) (.func (.func 92) #[] #[]) w
    have HL := Lib.hid hl
    have HP := Lib.hid hp
    clear hl hp h0
    go_enter Tryz.func91, Tryz.ntmps91
    go_wp2_with fail
    refine HL.out.mono ?_
    rintro e w' ⟨rfl, rfl⟩
    go_wp2_with fail
    refine HP.out.mono ?_
    rintro e w' ⟨rfl, rfl⟩
    go_wp2_with fail
    go_end0
    exact ⟨rfl, [], List.Perm.refl _, List.Pairwise.nil, World.grownBy.refl _ _, World.ownsRow_nil _ _ _ _⟩
  · have hfl : flatK selC 4 l.toArray = (selCells l).toArray := by rw [flat_sels]
    have hsz : l.toArray.size = l.length := by simp
    have hH : HoldsK selC 4 w g 0 l.toArray := by
      unfold HoldsK
      rw [hfl]
      exact holds_of_blockV hg (by rw [selCells_len]; exact ht)
    have hcon := sortFunc_sels g cap l.toArray w hH (Array.getElem?_eq_some_iff.1 hg).1 (by rw [hsz]; omega)
    rw [hsz] at hcon
    refine hcon.mono ?_
    rintro e w' ⟨rfl, d', n, os, hp, hs, rfl⟩
    obtain ⟨hps, _, hperm⟩ := hp
    rw [hsz] at hps
    have hpl : d'.toList.Perm l := by
      have e1 : (d'.extract 0 l.length) = d' := by rw [← hps]; exact Array.extract_size
      have e2 : (l.toArray.extract 0 l.length) = l.toArray := by rw [← hsz]; exact Array.extract_size
      rw [e1, e2, List.toList_toArray] at hperm
      exact hperm
    refine ⟨rfl, d'.toList, hpl, ?_, grownBy_putV _, ?_⟩
    · rw [List.pairwise_iff_getElem]
      intro i j hi hj hij
      rw [Array.length_toList] at hi hj
      have := hs i j (Nat.zero_le _) hij (by omega)
      rw [ltQ, getElem!_pos d' i hi, getElem!_pos d' j hj] at this
      simpa using this
    · unfold sortWorldK putRowK
      rw [flat_sels]
      have hel : (selCells d'.toList).length = l.length * 4 := by rw [selCells_len, Array.length_toList, hps]
      exact ⟨hel, .inr ⟨g, cap, _, rfl, hbg, heap_putV _ hg, hc, hcm, by simp [putCells, hcs], by rw [← hel]; exact take_putV _ _ (by rw [hel]; omega)⟩⟩
end Go.Proofs.YtnjiibiafhnmgaaGreatDoor
