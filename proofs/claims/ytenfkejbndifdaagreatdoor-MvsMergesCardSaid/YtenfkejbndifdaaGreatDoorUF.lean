/- A region that draws its order, cut in two: what comes in whatever order, and the operations at its end that wait for all of it. -/
import Derived.Test.YtenfkejbndifdaaGreatDoorUC
import Derived.Test.YtenfkejbndifdaaGreatDoorUA
import Derived.Tactics2
import Derived.Deep.RegionHeld3
import Derived.Deep.DeepCutAuto
namespace Go.Proofs.YtenfkejbndifdaaGreatDoor
set_option linter.unusedVariables false
set_option linter.unusedSimpArgs false
open Go Go.RowKit

def TailQ (P : Program) (lo : List Oper) (k : Nat) (Q : Exit → Act → World → Prop) : Exit → Act → World → Prop
  | .normal, a, w => wpList P lo.toArray Q (lo.drop k) a w
  | _, _, _ => False
def splitB (lo : List Oper) (k : Nat) : Bool :=
  (List.range k).all (fun i => match lo[i]? with
    | some o => o.guard.isNone && o.after.all (fun e => !Region.binds .any e || decide (e.on < i))
    | none => false) &&
  (List.range lo.length).all (fun i => decide (i < k) || (List.range k).all fun j => Region.waitsFor .any lo.toArray i j) &&
  Region.seqB .any lo.toArray (lo.length - k) k (Array.replicate k true ++ Array.replicate (lo.length - k) false) && decide (k ≤ lo.length)
theorem wpAny_more {P : Program} {md : Region.Mode} {ops : Array Oper} {Q : Exit → Act → World → Prop} (m : Nat) : ∀ (f : Nat) (listed : Array Bool) (a : Act) (w : World), wpAny P md ops Q f listed a w → wpAny P md ops Q (f + m) listed a w
  | 0, listed, a, w, h => by
    rw [Nat.zero_add]
    cases m with
    | zero => exact h
    | succ m => exact ⟨fun _ => h.2, by rw [h.1]; simp⟩
  | f + 1, listed, a, w, h => by
    rw [show f + 1 + m = (f + m) + 1 by omega]
    exact ⟨h.1, fun i hi => wpOp_mono (fun a' w' h' => wpAny_more m f _ a' w' h') (h.2 i hi)⟩
theorem oper_tail {P : Program} {o : Oper} {a : Act} {w : World} {K K' : Act → World → Prop} {T Q : Exit → Act → World → Prop} (hT : ∀ e a w, T e a w → e = .normal) (hK : ∀ a w, K a w → K' a w) (h : o.wp P a w K T) : o.wp P a w K' Q := by
  unfold Oper.wp at *
  generalize (execOp a.eval o).run P w = r at *
  cases r with
  | ok x w' =>
    cases x <;> simp only [Oper.upon] at h ⊢
    case value v => exact hK _ _ h
    case skip => exact hK _ _ h
    case defer d => exact hK _ _ h
    case enter f args =>
      refine h.mono fun e w'' he => ?_
      cases e with
      | returned v => exact hK _ _ he
      | panicked c => cases hT _ _ _ he
      | outgrown => obtain ⟨a, w, h⟩ := he; cases hT _ _ _ h
    case row r args =>
      intro c cs
      obtain ⟨v, w'', hv, hs⟩ := h c cs
      exact ⟨v, w'', hK _ _ hv, hs⟩
  | halt x w' =>
    cases x <;> simp only [Oper.upon] at h ⊢
    case panic v => cases hT _ _ _ h
theorem getD_head {k m : Nat} {listed : Array Bool} (hs : listed.size = k) {i : Nat} (hi : i < k) (d : Bool) : (listed ++ Array.replicate m false).getD i d = listed.getD i d := by
  rw [Array.getD_eq_getD_getElem?, Array.getD_eq_getD_getElem?, Array.getElem?_append_left (by omega)]
theorem getD_rest {k m : Nat} {listed : Array Bool} (hs : listed.size = k) {i : Nat} (hi : k ≤ i) : (listed ++ Array.replicate m false).getD i false = false := by
  rw [Array.getD_eq_getD_getElem?, Array.getElem?_append_right (by omega)]
  cases e : (Array.replicate m false)[i - listed.size]? with
  | none => rfl
  | some b => have := Array.getElem?_eq_some_iff.1 e; obtain ⟨h1, h2⟩ := this; simp at h2; simp [h2]
theorem wpAny_split {P : Program} {lo : List Oper} {k : Nat} {Q : Exit → Act → World → Prop} (hB : splitB lo k = true) : ∀ (f : Nat) (listed : Array Bool) (a : Act) (w : World), listed.size = k →
    wpAny P .any (lo.take k).toArray (TailQ P lo k Q) f listed a w → wpAny P .any lo.toArray Q (f + (lo.length - k)) (listed ++ Array.replicate (lo.length - k) false) a w := by
  simp only [splitB, Bool.and_eq_true, decide_eq_true_eq] at hB
  obtain ⟨⟨⟨h1, h2⟩, h3⟩, hk⟩ := hB
  have hto : ∀ i, i < k → (lo.take k).toArray[i]? = lo.toArray[i]? := fun i hi => by simp [List.getElem?_take, hi]
  have hhead : ∀ i, i < k → ∃ o, lo.toArray[i]? = some o ∧ o.guard = none ∧ ∀ e ∈ o.after, Region.binds .any e = true → e.on < i := fun i hi => by
    have := List.all_eq_true.1 h1 i (List.mem_range.2 hi)
    cases e : lo[i]? with
    | none => rw [e] at this; cases this
    | some o =>
      rw [e] at this
      simp only [Bool.and_eq_true, Option.isNone_iff_eq_none, Array.all_eq_true', Bool.or_eq_true, Bool.not_eq_true', decide_eq_true_eq] at this
      refine ⟨o, by simpa using e, this.1, fun e' he hb => ?_⟩
      rcases this.2 e' he with h | h
      · rw [hb] at h; cases h
      · exact h
  have hall : ∀ (listed : Array Bool), listed.size = k → Region.ready .any (lo.take k).toArray listed = [] → ∀ i, i < k → listed.getD i true = true := by
    intro listed hs hr i
    induction i using Nat.strongRecOn with
    | _ i ih =>
      intro hi
      cases hb : listed.getD i true with
      | true => rfl
      | false =>
        obtain ⟨o, ho, _, hon⟩ := hhead i hi
        have : i ∈ Region.ready .any (lo.take k).toArray listed := mem_ready.2 ⟨hb, o, (hto i hi).trans ho, fun e he hbd => by
          have hlt := hon e he hbd
          have := ih e.on hlt (by omega)
          have hsz : e.on < listed.size := by omega
          simp [hsz] at this ⊢
          exact this⟩
        rw [hr] at this
        cases this
  have hdone : ∀ (listed : Array Bool) (a : Act) (w : World) (f : Nat), listed.size = k → Region.ready .any (lo.take k).toArray listed = [] → wpList P lo.toArray Q (lo.drop k) a w → wpAny P .any lo.toArray Q (f + (lo.length - k)) (listed ++ Array.replicate (lo.length - k) false) a w := by
    intro listed a w f hs hr hw
    have hl : listed = Array.replicate k true := by
      apply Array.ext
      · simp [hs]
      · intro i hi1 hi2
        have := hall listed hs hr i (by omega)
        simp [hi1] at this
        simp [this]
    rw [hl, Nat.add_comm]
    refine wpAny_more f _ _ _ _ ?_
    have := wpAny_of_seq (md := .any) (Q' := Q) (ops := lo.toArray) (P := P) (lo.drop k) k (Array.replicate k true ++ Array.replicate (lo.length - k) false) a w (fun j => by simp [List.getElem?_drop]) (by rw [List.length_drop]; exact h3) hw
    rwa [List.length_drop] at this
  intro f
  induction f with
  | zero =>
    intro listed a w hs h
    exact hdone listed a w 0 hs h.1 h.2
  | succ f ih =>
    intro listed a w hs h
    by_cases hr : Region.ready .any (lo.take k).toArray listed = []
    · exact hdone listed a w (f + 1) hs hr (h.1 hr)
    · have hin : ∀ i, i ∈ Region.ready .any lo.toArray (listed ++ Array.replicate (lo.length - k) false) → i < k ∧ i ∈ Region.ready .any (lo.take k).toArray listed := by
        intro i hi
        obtain ⟨hu, o, ho, hw⟩ := mem_ready.1 hi
        by_cases hik : i < k
        · refine ⟨hik, mem_ready.2 ⟨by rw [← getD_head (m := lo.length - k) hs hik]; exact hu, o, (hto i hik).trans ho, fun e he hb => ?_⟩⟩
          have := hw e he hb
          by_cases hek : e.on < k
          · rwa [getD_head hs hek] at this
          · rw [getD_rest hs (by omega)] at this; cases this
        · exfalso
          obtain ⟨j, hj⟩ := List.exists_mem_of_ne_nil _ hr
          obtain ⟨hju, oj, hoj, _⟩ := mem_ready.1 hj
          have hjk : j < k := by have := (Array.getElem?_eq_some_iff.1 hoj).1; simp at this; omega
          have hil : i < lo.length := by have := (Array.getElem?_eq_some_iff.1 ho).1; simpa using this
          have h4 := List.all_eq_true.1 h2 i (List.mem_range.2 hil)
          simp only [Bool.or_eq_true, decide_eq_true_eq] at h4
          rcases h4 with h4 | h4
          · omega
          · obtain ⟨oi, hoi, e, he, hb, hon⟩ := Region.waitsFor_spec (List.all_eq_true.1 h4 j (List.mem_range.2 hjk))
            rw [ho] at hoi
            cases hoi
            have := hw e he hb
            rw [hon, getD_head hs hjk] at this
            rw [getD_both hju] at this
            cases this
      rw [show f + 1 + (lo.length - k) = (f + (lo.length - k)) + 1 by omega]
      refine ⟨fun h0 => ?_, fun i hi => ?_⟩
      · exfalso
        obtain ⟨j, hj⟩ := List.exists_mem_of_ne_nil _ hr
        obtain ⟨hju, oj, hoj, hw⟩ := mem_ready.1 hj
        have hjk : j < k := by have := (Array.getElem?_eq_some_iff.1 hoj).1; simp at this; omega
        have : j ∈ Region.ready .any lo.toArray (listed ++ Array.replicate (lo.length - k) false) := mem_ready.2 ⟨by rw [getD_head hs hjk]; exact hju, oj, (hto j hjk).symm.trans hoj, fun e he hb => by
          have := hw e he hb
          by_cases hek : e.on < k
          · rwa [getD_head hs hek]
          · rw [Array.getD_eq_getD_getElem?, Array.getElem?_eq_none (by omega)] at this; cases this⟩
        rw [h0] at this
        cases this
      · obtain ⟨hik, hi2⟩ := hin i hi
        obtain ⟨o, ho, hg, _⟩ := hhead i hik
        have hh := h.2 i hi2
        unfold wpOp at hh ⊢
        rw [hto i hik, ho] at hh
        rw [ho]
        simp only at hh ⊢
        have hw1 : ∀ y, Region.wanted o y = true := fun y => by simp [Region.wanted, hg]
        rw [if_pos (hw1 _)] at hh ⊢
        rcases hh with hh | ⟨_, a0, w0, hh⟩
        · refine .inl (oper_tail (T := TailQ P lo k Q) (fun e a w ht => by cases e <;> first | rfl | exact ht.elim) (fun a' w' hk' => ?_) hh)
          have := ih (listed.setIfInBounds i true) a' w' (by simp [hs]) hk'
          rwa [show (listed ++ Array.replicate (lo.length - k) false).setIfInBounds i true = listed.setIfInBounds i true ++ Array.replicate (lo.length - k) false from by
            rw [Array.setIfInBounds_append_left (by omega)]]
        · exact hh.elim
theorem any_split {P : Program} {lo : List Oper} {Q : Exit → Act → World → Prop} {S : World → Prop} {a : Act} {w : World} (k : Nat) (hB : splitB lo k = true)
    (h : wpAnyH P .any (lo.take k).toArray (TailQ P lo k Q) S k (Array.replicate k false) a w) : wpAny P .any lo.toArray Q lo.toArray.size (Array.replicate lo.toArray.size false) a w := by
  have hk : k ≤ lo.length := by simp only [splitB, Bool.and_eq_true, decide_eq_true_eq] at hB; exact hB.2
  have := wpAny_split (Q := Q) hB k (Array.replicate k false) a w (by simp) (wpAny_of_held _ _ _ _ h)
  rw [show k + (lo.length - k) = lo.toArray.size by simp; omega, Array.replicate_append_replicate, show k + (lo.length - k) = lo.toArray.size by simp; omega] at this
  exact this
theorem region_plain_split {P : Program} {id : Nat} {lo : List Oper} {Q : Exit → Act → World → Prop} {a : Act} {w : World} {S : World → Prop} (k : Nat) (hm : P.follows .mixedOrders = true) (hB : splitB lo k = true)
    (h : wpAnyH P .any (lo.take k).toArray (TailQ P lo k Q) S k (Array.replicate k false) a w.drew) : (Code.region id lo.toArray true).wp P Q a w := wp_region_any hm (any_split k hB h)
end Go.Proofs.YtenfkejbndifdaaGreatDoor

namespace Go.Proofs.YtenfkejbndifdaaGreatDoor
open Go Go.RowKit
attribute [local go_sem ↓] Go.wp_at_zero Go.wp_at_succ

theorem cmpV_0 {a b c x y z : Int} (h : cmpI a x ≠ 0) : cmpV a b c x y z = cmpI a x := by unfold cmpV; rw [if_pos h]
theorem cmpV_1 {a b c x y z : Int} (h : cmpI a x = 0) (h1 : cmpI b y ≠ 0) : cmpV a b c x y z = cmpI b y := by unfold cmpV; rw [if_neg (by simp [h]), if_pos h1]
theorem cmpV_2 {a b c x y z : Int} (h : cmpI a x = 0) (h1 : cmpI b y = 0) : cmpV a b c x y z = cmpI c z := by unfold cmpV; rw [if_neg (by simp [h]), if_neg (by simp [h1])]

theorem below_drewNV {B : Nat} {a w : World} (h : Below B a w) (n : Nat) : Below B a (w.drewN n) := h.trans ⟨rfl, rfl, rfl, Nat.le_refl _, fun _ _ => rfl⟩
theorem keep6 {W w' : World} {g : Nat} {a b c x y z : Value} (hz : g + 1 < W.heap.size) (e0 : W.cell? ⟨g, 0, none⟩ = some a) (e1 : W.cell? ⟨g, 1, none⟩ = some b) (e2 : W.cell? ⟨g, 2, none⟩ = some c)
    (k0 : W.cell? ⟨g + 1, 0, none⟩ = some x) (k1 : W.cell? ⟨g + 1, 1, none⟩ = some y) (k2 : W.cell? ⟨g + 1, 2, none⟩ = some z) (h : Below W.heap.size W w') :
    w'.cell? ⟨g, 0, none⟩ = some a ∧ w'.cell? ⟨g, 1, none⟩ = some b ∧ w'.cell? ⟨g, 2, none⟩ = some c ∧ w'.cell? ⟨g + 1, 0, none⟩ = some x ∧ w'.cell? ⟨g + 1, 1, none⟩ = some y ∧ w'.cell? ⟨g + 1, 2, none⟩ = some z := by
  have h1 : g < W.heap.size := by omega
  exact ⟨(h.cell h1).trans e0, (h.cell h1).trans e1, (h.cell h1).trans e2, (h.cell hz).trans k0, (h.cell hz).trans k1, (h.cell hz).trans k2⟩
set_option maxRecDepth 100000 in
set_option maxHeartbeats 8000000 in
theorem Compare_any (a b c x y z : Int) (w : World) : Calls Tryz.prog 147 #[.agg #[.int .i64 a, .int .i64 b, .int .i64 c], .agg #[.int .i64 x, .int .i64 y, .int .i64 z]] w fun e w' => e = .returned (.int .i64 (cmpV a b c x y z)) ∧ Below w.heap.size w w' := by
  go_enter Tryz.func147, Tryz.ntmps147
  go_upto_region 1 with fail
  obtain ⟨W, hW⟩ : ∃ W, (w.alloc (.cells #[.int .i64 a, .int .i64 b, .int .i64 c] 41)).alloc (.cells #[.int .i64 x, .int .i64 y, .int .i64 z] 41) = W := ⟨_, rfl⟩
  rw [hW]
  have hB0 : Hid (Below w.heap.size w W) := Lib.hid (by rw [← hW]; exact ((Below.refl _ _).alloc (Nat.le_refl _) _).alloc (by simp) _)
  have e0 : W.cell? ⟨w.heap.size, 0, none⟩ = some (.int .i64 a) := by rw [← hW]; simp [go_sem]
  have e1 : W.cell? ⟨w.heap.size, 1, none⟩ = some (.int .i64 b) := by rw [← hW]; simp [go_sem]
  have e2 : W.cell? ⟨w.heap.size, 2, none⟩ = some (.int .i64 c) := by rw [← hW]; simp [go_sem]
  have k0 : W.cell? ⟨w.heap.size + 1, 0, none⟩ = some (.int .i64 x) := by rw [← hW]; simp [go_sem]
  have k1 : W.cell? ⟨w.heap.size + 1, 1, none⟩ = some (.int .i64 y) := by rw [← hW]; simp [go_sem]
  have k2 : W.cell? ⟨w.heap.size + 1, 2, none⟩ = some (.int .i64 z) := by rw [← hW]; simp [go_sem]
  clear hW
  have hz : w.heap.size + 1 < W.heap.size := by have := World.block_lt_of_cell? _ _ k0; simpa using this
  go_cut [5, 6] (fun s5 s6 wx => ∃ g5 g6 : Nat, s5 = .pointer (some ⟨g5, 0, none⟩) ∧ s6 = .pointer (some ⟨g6, 0, none⟩) ∧ wx.cell? ⟨g5, 0, none⟩ = some (.int .i64 a) ∧ wx.cell? ⟨g5, 1, none⟩ = some (.int .i64 b) ∧ wx.cell? ⟨g5, 2, none⟩ = some (.int .i64 c) ∧ wx.cell? ⟨g6, 0, none⟩ = some (.int .i64 x) ∧ wx.cell? ⟨g6, 1, none⟩ = some (.int .i64 y) ∧ wx.cell? ⟨g6, 2, none⟩ = some (.int .i64 z) ∧ Hid (Below w.heap.size w wx))
  case first =>
    go_region_held3 (fun w' => w'.cell? ⟨w.heap.size, 0, none⟩ = some (.int .i64 a) ∧ w'.cell? ⟨w.heap.size, 1, none⟩ = some (.int .i64 b) ∧ w'.cell? ⟨w.heap.size, 2, none⟩ = some (.int .i64 c) ∧ w'.cell? ⟨w.heap.size + 1, 0, none⟩ = some (.int .i64 x) ∧ w'.cell? ⟨w.heap.size + 1, 1, none⟩ = some (.int .i64 y) ∧ w'.cell? ⟨w.heap.size + 1, 2, none⟩ = some (.int .i64 z)) ((exact keep6 hz e0 e1 e2 k0 k1 k2 (by repeat (first | exact Below.refl _ _ | refine Below.drew ?_ | refine Below.alloc ?_ (by simp <;> omega) _ | refine Below.setCell ?_ (by simp <;> omega) _))))
      (first | (go_at_call 136; refine (parts_any _ _ _ _).mono ?_; rintro e w' ⟨rfl, rfl⟩))
    all_goals
      go_wp2_with fail
      go_meet
      exact ⟨_, _, rfl, rfl, by simp [go_sem], by simp [go_sem], by simp [go_sem], by simp [go_sem], by simp [go_sem], by simp [go_sem], Lib.hid (hB0.out.trans (Below.mono (by repeat (first | exact Below.refl _ _ | refine Below.drew ?_ | refine Below.alloc ?_ (by simp <;> omega) _ | refine Below.setCell ?_ (by simp <;> omega) _)) hB0.out.size))⟩
  case rest =>
    obtain ⟨g5, g6, rfl, rfl, c0, c1, c2, d0, d1, d2, HB⟩ := hcut
    go_wp2_with fail
    go_loopw [13] (fun i wr => ((i = .int .i64 0) ∨ (i = .int .i64 1 ∧ Hid (cmpI a x = 0)) ∨ (i = .int .i64 2 ∧ Hid (cmpI a x = 0 ∧ cmpI b y = 0)) ∨ (i = .int .i64 3 ∧ Hid (cmpV a b c x y z = 0))) ∧ Hid (∃ n, wr = wc.drewN n)) (fun i _ => 3 - (intOf i).toNat)
    case atStart => exact ⟨.inl rfl, Lib.hid ⟨0, rfl⟩⟩
    case round =>
      obtain ⟨hrel, HW⟩ := hrel
      obtain ⟨n, hn⟩ := HW.out
      replace c0 : wr.cell? ⟨g5, 0, none⟩ = some (.int .i64 a) := by rw [hn]; exact c0
      replace c1 : wr.cell? ⟨g5, 1, none⟩ = some (.int .i64 b) := by rw [hn]; exact c1
      replace c2 : wr.cell? ⟨g5, 2, none⟩ = some (.int .i64 c) := by rw [hn]; exact c2
      replace d0 : wr.cell? ⟨g6, 0, none⟩ = some (.int .i64 x) := by rw [hn]; exact d0
      replace d1 : wr.cell? ⟨g6, 1, none⟩ = some (.int .i64 y) := by rw [hn]; exact d1
      replace d2 : wr.cell? ⟨g6, 2, none⟩ = some (.int .i64 z) := by rw [hn]; exact d2
      have HBW : Hid (Below w.heap.size w wr) := Lib.hid (by rw [hn]; exact below_drewNV HB.out _)
      have HN := Lib.hid hn
      clear hn HW
      rcases hrel with rfl | ⟨rfl, H1⟩ | ⟨rfl, H2⟩ | ⟨rfl, H3⟩
      · by_cases h0 : cmpI a x = 0
        · have H0 := Lib.hid h0
          go_wp2_with fail
          go_quiet ((go_at_call 180; exact Calls.quiet_of_same ((cmp_any _ _ _).mono fun e w' h => ⟨h.1, h.2.symm⟩)))
          go_wp2_with fail
          go_roundw
          case rel => exact ⟨.inr (.inl ⟨rfl, H0⟩), Lib.hid ⟨n + nq, by rw [HN.out, World.drewN_drewN]⟩⟩
          case measure => simp [intOf]
        · have hb : (cmpI a x != 0) = true := by simpa using h0
          have H0 := Lib.hid (cmpV_0 (b := b) (c := c) (y := y) (z := z) h0)
          clear h0
          go_wp2_with fail
          go_quiet ((go_at_call 180; exact Calls.quiet_of_same ((cmp_any _ _ _).mono fun e w' h => ⟨h.1, h.2.symm⟩)))
          go_wp2_with fail
          go_ret
          exact ⟨by rw [H0.out]; rfl, below_drewNV HBW.out _⟩
      · by_cases h0 : cmpI b y = 0
        · have H0 := Lib.hid h0
          go_wp2_with fail
          go_quiet ((go_at_call 180; exact Calls.quiet_of_same ((cmp_any _ _ _).mono fun e w' h => ⟨h.1, h.2.symm⟩)))
          go_wp2_with fail
          go_roundw
          case rel => exact ⟨.inr (.inr (.inl ⟨rfl, Lib.hid ⟨H1.out, H0.out⟩⟩)), Lib.hid ⟨n + nq, by rw [HN.out, World.drewN_drewN]⟩⟩
          case measure => simp [intOf]
        · have hb : (cmpI b y != 0) = true := by simpa using h0
          have H0 := Lib.hid (cmpV_1 (c := c) (z := z) H1.out h0)
          clear h0
          go_wp2_with fail
          go_quiet ((go_at_call 180; exact Calls.quiet_of_same ((cmp_any _ _ _).mono fun e w' h => ⟨h.1, h.2.symm⟩)))
          go_wp2_with fail
          go_ret
          exact ⟨by rw [H0.out]; rfl, below_drewNV HBW.out _⟩
      · by_cases h0 : cmpI c z = 0
        · have H0 := Lib.hid h0
          go_wp2_with fail
          go_quiet ((go_at_call 180; exact Calls.quiet_of_same ((cmp_any _ _ _).mono fun e w' h => ⟨h.1, h.2.symm⟩)))
          go_wp2_with fail
          go_roundw
          case rel => exact ⟨.inr (.inr (.inr ⟨rfl, Lib.hid (by rw [cmpV_2 H2.out.1 H2.out.2]; exact H0.out)⟩)), Lib.hid ⟨n + nq, by rw [HN.out, World.drewN_drewN]⟩⟩
          case measure => simp [intOf]
        · have hb : (cmpI c z != 0) = true := by simpa using h0
          have H0 := Lib.hid (cmpV_2 (c := c) (z := z) H2.out.1 H2.out.2)
          clear h0
          go_wp2_with fail
          go_quiet ((go_at_call 180; exact Calls.quiet_of_same ((cmp_any _ _ _).mono fun e w' h => ⟨h.1, h.2.symm⟩)))
          go_wp2_with fail
          go_ret
          exact ⟨by rw [H0.out]; rfl, below_drewNV HBW.out _⟩
      · go_wp2_with fail
        go_ret
        exact ⟨by rw [H3.out]; rfl, HBW.out⟩
end Go.Proofs.YtenfkejbndifdaaGreatDoor
