/- Contract of the reference 34's reach. Contract of slices.Concat at requirements. -/
import Derived.Test.YtenfkejbndifdaaGreatDoorVS
import Derived.Test.YtenfkejbndifdaaGreatDoorUO
import Derived.Test.YtenfkejbndifdaaGreatDoorVM
import Derived.Shelf.Spec.SlicesGrow
namespace Go.Proofs.YtenfkejbndifdaaGreatDoor
set_option linter.unusedVariables false
set_option linter.unusedSimpArgs false
open Go Go.RowKit Go.Maps

def FlagsM (W : World) (g : Nat) (l : List Bool) : Prop := W.heap[g]? = some (.cells (l.map Value.bool).toArray 4 (0, 0))
abbrev bM (d : List Bool) (a : Nat) : Bool := d.getD a false
theorem reqs_src2 {B : Nat} {l : List ReqL} {W : World} {v : Value} (h : ReqsOf B v l W) : ∃ news, Src Tryz.prog 2 26 v l.length news W ∧ ReqXs B l news W := by
  have h2 := h
  obtain ⟨ao, cap, rfl, hh⟩ := h
  by_cases h0 : l = []
  · subst h0
    cases ao with
    | none => exact ⟨[], Src.ofNil _ Tryz.underlying26 cap, fun i q hq => by simp at hq⟩
    | some a => exact ⟨[], Src.ofSlice _ Tryz.underlying26 a 0 cap [] rfl (fun j u hu => by simp at hu) (fun _ h => by cases h), fun i q hq => by simp at hq⟩
  · have hp : 0 < l.length := List.length_pos_iff.2 h0
    obtain ⟨b, off, _, rfl, _⟩ := hh 0 l[0] (by simp [hp])
    obtain ⟨xs, hx1, hx2, hx3, hx4⟩ := reqs_cells2 h2
    exact ⟨xs, Src.ofSlice _ Tryz.underlying26 ⟨b, off, none⟩ l.length cap xs hx1 (fun j u hu => by rw [Addr.add_lit]; exact hx2 j u hu) hx4, hx3⟩
def RRchR (nw : Bool) (X : List RelL) (roots : List ReqL) (w : World) (e : Ending) (w' : World) : Prop := Below w.heap.size w w' ∧
  ((AllM nw X roots ∧ ∃ g l, e = .returned (.tuple #[.slice (some ⟨g, 0, none⟩) X.length X.length, .bool true]) ∧ w.heap.size ≤ g ∧ FlagsM w' g l ∧ l.length = X.length ∧ ∀ k, bM l k = true ↔ RchM nw X roots k) ∨
    (¬ AllM nw X roots ∧ e = .returned (.tuple #[.slice none 0 0, .bool false])))
structure RrJ (nw : Bool) (X : List RelL) (roots : List ReqL) (w : World) (v iv : Value) (todo : List ReqL) (i : Nat) (s : List Nat) (l : List Bool) (xs : List Value) (tv : Value) (W : World) : Prop where
  law : LawB w v iv W
  rch : RchT nw X roots todo i s
  flg : FlagsM W (w.heap.size + 1) l
  len : l.length = X.length
  mrk : ∀ k, bM l k = true ↔ k ∈ s
  seg : SegC W (w.heap.size + 1 + 1) 2 tv todo.length xs
  els : ReqXs w.heap.size todo xs W
def HeldT (g gq o : Nat) (v iv : Value) (q : ReqL) (rq : Value) (W : World) : Prop := W.cell? ⟨g, 0, none⟩ = some v ∧ W.cell? ⟨g, 1, none⟩ = some iv ∧ W.cell? ⟨gq, o, none⟩ = some (.string q.1) ∧ W.cell? ⟨gq, o + 1, none⟩ = some rq
end Go.Proofs.YtenfkejbndifdaaGreatDoor

namespace Go.Proofs.YtenfkejbndifdaaGreatDoor
set_option linter.unusedVariables false
set_option linter.unusedSimpArgs false
open Go Go.RowKit Go.Lib Go.Shelf

def growRen : Ren := ⟨fun _ => 97, fun x => if x = 0 then 0 else if x = 3 then 3 else if x = 4 then 4 else if x = 9 then 9 else if x = 20 then 20 else if x = 22 then 26 else 58, fun x => x⟩
theorem growLays : Lays8.n4 Tryz.prog growRen := {
  mixed := by kernel_rfl
  f4 := ⟨Tryz.f97.name, by decide, Tryz.func97.trans (congrArg some (by kernel_rfl))⟩
  t0 := Tryz.underlying0
  a0 := Tryz.isAgg0
  z0 := Tryz.sizeOf0
  v0 := Tryz.zeroValue0
  t3 := Tryz.underlying3
  a3 := Tryz.isAgg3
  z3 := Tryz.sizeOf3
  v3 := Tryz.zeroValue3
  t4 := Tryz.underlying4
  a4 := Tryz.isAgg4
  z4 := Tryz.sizeOf4
  v4 := Tryz.zeroValue4
  t9 := Tryz.underlying9
  a9 := Tryz.isAgg9
  z9 := Tryz.sizeOf9
  v9 := Tryz.zeroValue9
  t20 := Tryz.underlying20
  a20 := Tryz.isAgg20
  z20 := Tryz.sizeOf20
  v20 := Tryz.zeroValue20
  t22 := Tryz.underlying26
  a22 := Tryz.isAgg26
  z22 := Tryz.sizeOf26
  v22 := Tryz.zeroValue26 }
set_option maxRecDepth 100000 in
theorem grow_reqs (n : Nat) (w : World) (hn : n ≤ 1000000000) : Calls Tryz.prog 97 #[.slice none 0 0, .int .i64 (n : Int)] w fun e w' => ∃ v, e = .returned v ∧ SegC w' w.heap.size 2 v 0 [] ∧ Below w.heap.size w w' := by
  rcases Nat.eq_zero_or_pos n with h0 | h0
  · subst h0
    have h := Any8.slices_Grow_room growLays none 0 0 0 w (Nat.le_refl _) (by omega) (by omega) (by omega)
    refine Calls.mono (show Calls Tryz.prog 97 _ _ _ from h) ?_
    rintro e w' ⟨rfl, rfl⟩
    exact ⟨_, rfl, SegC.nil _ _ _ _, Below.refl _ _⟩
  · obtain ⟨i0, hi0, hz0, hz1, hz2⟩ := info_parts info_reqs
    have h := Any8.slices_Grow_grow growLays i0 _ hi0 hz0 (by rw [hz1]; omega) none 0 0 n [] w (Nat.le_refl _) (by omega) (by rw [hz2]; omega) (by omega) (by simp) (fun _ => rfl) (fun a ha => by cases ha)
    refine Calls.mono (show Calls Tryz.prog 97 _ _ _ from h) ?_
    rintro e w' ⟨rfl, rfl⟩
    have hge := grownCap_ge w (0 + n) 0 58
    have hcm := grownCap_le_maxLen w (0 + n) 0 58 (by unfold maxLen; omega)
    refine ⟨_, rfl, ?_, (Below.refl w.heap.size w).drew.trans (belQ w.drew _)⟩
    show SegC _ _ 2 (.slice (some ⟨w.heap.size, 0, none⟩) 0 (grownCap w (0 + n) 0 58)) 0 []
    obtain ⟨K, hK⟩ : ∃ K, grownCap w (0 + n) 0 58 = K + 1 := ⟨grownCap w (0 + n) 0 58 - 1, by omega⟩
    change SegC (w.drew.alloc (.cells (([] : List Value).toArray ++ Builtin.zeroCells (Value.agg #[.string ⟨#[]⟩, .slice none 0 0]).cells (0 + n - 0) ++ Builtin.zeroCells (Value.agg #[.string ⟨#[]⟩, .slice none 0 0]).cells (grownCap w (0 + n) 0 58 - (0 + n))) 58)) _ _ _ _ _
    rw [hK] at hge hcm ⊢
    have hzs : (Value.agg #[.string ⟨#[]⟩, .slice none 0 0]).cells.size = 2 := by rfl
    have hsz : (([] : List Value).toArray ++ Builtin.zeroCells (Value.agg #[.string ⟨#[]⟩, .slice none 0 0]).cells (0 + n - 0) ++ Builtin.zeroCells (Value.agg #[.string ⟨#[]⟩, .slice none 0 0]).cells (K + 1 - (0 + n))).size = (K + 1) * 2 := by
      rw [Array.size_append, Array.size_append, size_zeroCells, size_zeroCells, hzs]
      simp only [List.size_toArray, List.length_nil]
      omega
    refine ⟨rfl, .inr ⟨w.heap.size, 0, K, rfl, Nat.zero_le _, hcm, Nat.le_refl _, by simp, fun j hj => by omega, fun j hj => ?_⟩⟩
    have e1 : (w.drew.alloc (.cells (([] : List Value).toArray ++ Builtin.zeroCells (Value.agg #[.string ⟨#[]⟩, .slice none 0 0]).cells (0 + n - 0) ++ Builtin.zeroCells (Value.agg #[.string ⟨#[]⟩, .slice none 0 0]).cells (K + 1 - (0 + n))) 58)).cell? ⟨w.heap.size, 0 + j, none⟩ = _ := World.cell?_alloc_new w.drew _ _ _
    exact ⟨by rw [e1, Array.getElem?_eq_getElem (by rw [hsz]; omega)]; rfl, World.frozen?_alloc_new w.drew _ _ _⟩
theorem seg_reqs {W : World} {B B0 : Nat} {v : Value} {l : List ReqL} {xs : List Value} (h : SegC W B 2 v l.length xs) (hx : ReqXs B0 l xs W) (hB : B0 ≤ W.heap.size) : ReqsOf W.heap.size v l W := by
  rcases h.val with ⟨ao, rfl, h0⟩ | ⟨g, off, cap, rfl, _, _, _, hg, h5, _⟩
  · obtain rfl := List.length_eq_zero_iff.1 h0
    exact ⟨_, _, rfl, fun i q hq => by simp at hq⟩
  · refine ⟨_, _, rfl, fun i q hq => ?_⟩
    have hi := (List.getElem?_eq_some_iff.1 hq).1
    obtain ⟨r, a, b, c⟩ := hx i q hq
    refine ⟨g, off, r, rfl, hg, (h5 (i * 2) (by omega)).trans a, ?_, c.mono hB⟩
    rw [Nat.add_assoc]
    exact (h5 (i * 2 + 1) (by omega)).trans b
theorem flat_succ {ls : List (List ReqL)} {i : Nat} (hi : i < ls.length) : (ls.take (i + 1)).flatten = (ls.take i).flatten ++ ls[i] := by
  rw [List.take_succ_eq_append_getElem hi, List.flatten_append]
  simp
theorem flat_le {ls : List (List ReqL)} (i : Nat) : ((ls.take i).flatten).length ≤ ls.flatten.length := by
  conv => rhs; rw [← List.take_append_drop i ls]
  rw [List.flatten_append, List.length_append]
  omega
set_option maxRecDepth 100000 in
set_option maxHeartbeats 8000000 in
theorem concat_reqs (v : Value) (ls : List (List ReqL)) (w : World) (hll : ls.length ≤ 1000000) (hf : ls.flatten.length ≤ 1000000) (hL : ListsOf w.heap.size v ls w) :
    Calls Tryz.prog 42 #[v] w fun e w' => ∃ v', e = .returned v' ∧ ReqsOf w'.heap.size v' ls.flatten w' ∧ Below w.heap.size w w' := by
  have HL := Lib.hid hL
  obtain ⟨la, lc, rfl⟩ : ∃ la lc, v = .slice la ls.length lc := by obtain ⟨a, c, e, _⟩ := hL; exact ⟨a, c, e⟩
  clear hL
  have HEL : Hid (∀ i (hi : i < ls.length) W, Below w.heap.size w W → ∃ b off r, la = some ⟨b, off, none⟩ ∧ W.cell? ⟨b, off + i, none⟩ = some r ∧ ReqsOf w.heap.size r ls[i] W) := Lib.hid (fun i hi W hb => by
    obtain ⟨a, c, e, h⟩ := HL.out
    injection e with e1 e2 e3
    subst e1
    obtain ⟨b, off, r, e, hlt, h1, h2⟩ := h i _ (List.getElem?_eq_getElem hi)
    exact ⟨b, off, r, e, (hb.cell (p := ⟨b, off + i, none⟩) hlt).trans h1, h2.below hb (Nat.le_refl _)⟩)
  obtain ⟨T, hT⟩ : ∃ T, ls.flatten.length = T := ⟨_, rfl⟩
  have HTT := Lib.hid hT
  have HGW := Lib.hid (fun W => grow_reqs T W (by omega))
  rw [hT] at hf
  clear hT
  obtain ⟨i0, hi0', hz0, hz1, hz2⟩ := info_parts info_reqs
  go_enter Tryz.func42, Tryz.ntmps42
  go_wp2_with fail
  go_loopw [3, 11] (fun sz p wr => Hid (∃ i : Nat, i ≤ ls.length ∧ p = .int .i64 (i : Int) ∧ sz = .int .i64 (((ls.take i).flatten.length : Nat) : Int) ∧ wr = w)) (fun _ p _ => ls.length - (intOf p).toNat)
  case atStart => exact Lib.hid ⟨0, Nat.zero_le _, rfl, by simp, rfl⟩
  case round =>
    obtain ⟨i, hi, rfl, rfl, hwr⟩ := hrel.out
    subst hwr
    clear hrel
    by_cases hlt : i < ls.length
    case pos =>
      obtain ⟨b, off, r, e1, hc, hr⟩ := HEL.out i hlt wr (Below.refl _ _)
      subst e1
      have hfl := flat_le (ls := ls) (i + 1)
      rw [HTT.out] at hfl
      have HFS := Lib.hid (flat_succ hlt)
      rw [HFS.out, List.length_append] at hfl
      obtain ⟨ra, rc, rfl⟩ : ∃ ra rc, r = .slice ra ls[i].length rc := by obtain ⟨a, c, e, _⟩ := hr; exact ⟨a, c, e⟩
      obtain ⟨m, hm⟩ : ∃ m, ls[i].length = m := ⟨_, rfl⟩
      obtain ⟨t, ht⟩ : ∃ t, (ls.take i).flatten.length = t := ⟨_, rfl⟩
      have HT : Hid ((ls.take (i + 1)).flatten.length = t + m) := Lib.hid (by rw [HFS.out, List.length_append, hm, ht])
      rw [hm] at hc hfl
      rw [ht] at hfl ⊢
      clear hm ht hr
      have hi0 : (0 : Int) ≤ (i : Int) := Int.natCast_nonneg i
      have hi1 : (i : Int) < (ls.length : Int) := Int.ofNat_lt.2 hlt
      have hw1 : wrap64 ((t : Int) + (m : Int)) = ((t + m : Nat) : Int) := by unfold wrap64; omega
      have hw2 : IntKind.i64.wrap ((t : Int) + (m : Int)) = ((t + m : Nat) : Int) := by rw [IntWalk.i64_in _ (by omega)]; omega
      have hn0 : ¬ (((t + m : Nat) : Int) < 0) := by omega
      have hd0 : decide (((t + m : Nat) : Int) < 0) = false := decide_eq_false hn0
      go_wp2_with fail
      go_roundw
      case rel => exact Lib.hid ⟨i + 1, hlt, by go_num, by rw [HT.out]; push_cast; rfl, by trivial⟩
      case measure => simp [intOf]; omega
    case neg =>
      have hii : i = ls.length := Nat.le_antisymm hi (Nat.le_of_not_lt hlt)
      subst hii
      rw [List.take_length, HTT.out]
      go_wp2_with fail
      refine (HGW.out _).mono ?_
      rintro e w1 ⟨nv, rfl, hseg, hb1⟩
      have HS1 := Lib.hid hseg
      have HB1 := Lib.hid hb1
      clear hseg hb1 HGW
      go_wp2_with fail
      obtain ⟨wo, rfl⟩ : ∃ wo : World, wo = wr := ⟨_, rfl⟩
      go_loopw [6, 27] (fun ov p wx => Hid (∃ (i : Nat) (xs : List Value), i ≤ ls.length ∧ p = .int .i64 (i : Int) ∧ SegC wx wo.heap.size 2 ov (ls.take i).flatten.length xs ∧ ReqXs wo.heap.size (ls.take i).flatten xs wx ∧ Below wo.heap.size wo wx)) (fun _ p _ => ls.length - (intOf p).toNat)
      case atStart => exact Lib.hid ⟨0, [], Nat.zero_le _, rfl, HS1.out, fun i q hq => by simp at hq, HB1.out⟩
      case round =>
        obtain ⟨i, xs, hi, rfl, hseg, hxs, hbb⟩ := hrel.out
        have HSG := Lib.hid hseg
        have HXS := Lib.hid hxs
        have HBB := Lib.hid hbb
        obtain ⟨oa, oc, rfl⟩ := hseg.shape
        have hsz := hbb.size
        clear hrel hseg hxs hbb HS1
        by_cases hlt : i < ls.length
        case neg =>
          have hii : i = ls.length := Nat.le_antisymm hi (Nat.le_of_not_lt hlt)
          subst hii
          have HSGF := HSG.out
          have HXSF := HXS.out
          rw [List.take_length] at HSGF HXSF ⊢
          have HRF := Lib.hid (seg_reqs HSGF HXSF hsz)
          clear HSGF HXSF
          go_wp2_with fail
          go_ret
          exact ⟨_, rfl, HRF.out, HBB.out⟩
        case pos =>
          obtain ⟨b, off, r, e1, hc, hr⟩ := HEL.out i hlt wr HBB.out
          subst e1
          have hfl := flat_le (ls := ls) (i + 1)
          rw [HTT.out] at hfl
          have HFS := Lib.hid (flat_succ hlt)
          rw [HFS.out, List.length_append] at hfl
          obtain ⟨news, hsrc, hels⟩ := reqs_src2 hr
          have HSRC := Lib.hid hsrc
          have HELS := Lib.hid hels
          obtain ⟨ra, rc, rfl⟩ : ∃ ra rc, r = .slice ra ls[i].length rc := by obtain ⟨a, c, e, _⟩ := hr; exact ⟨a, c, e⟩
          generalize ls[i] = m at *
          generalize (ls.take i).flatten = fl at *
          have hi0 : (0 : Int) ≤ (i : Int) := Int.natCast_nonneg i
          have hi1 : (i : Int) < (ls.length : Int) := Int.ofNat_lt.2 hlt
          clear hsrc hels hr
          go_wp2_with (at_builtin; refine wpList_append_segC _ rfl _ _ 26 26 rfl 58 i0 _ 40 2 Tryz.underlying26 hi0' hz0 hz1 hz2 rfl wo.heap.size (.slice oa fl.length oc) fl.length xs (by rfl) HSG.out hsz m.length news HSRC.out (by unfold maxLen; omega) (by omega) ?_; intro v12 W12 h12 g12 hb12; have H12 := Lib.hid h12; have G12 := Lib.hid g12; obtain ⟨va12, vc12, rfl⟩ := h12.shape; clear h12 g12 hb12)
          have HBF : Hid (Below wo.heap.size wr W12) := Lib.hid ((Below.refl _ _).grown G12.out hsz (fun b hb => (HSG.out.lt b hb).1))
          have HXF : Hid (ReqXs wo.heap.size (fl ++ m) (xs ++ news) W12) := Lib.hid (ReqXs.join (HXS.out.below HBF.out (Nat.le_refl _)) HSG.out.len (HELS.out.below HBF.out (Nat.le_refl _)))
          go_roundw
          case rel => exact Lib.hid ⟨i + 1, xs ++ news, hlt, by go_num, by rw [HFS.out, List.length_append]; exact H12.out, by rw [HFS.out]; exact HXF.out, HBB.out.trans HBF.out⟩
          case measure => simp [intOf]; omega
end Go.Proofs.YtenfkejbndifdaaGreatDoor
