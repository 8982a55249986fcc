/- Contract of the lexer's iterator over the tokens of a source. -/
import Derived.RangeFuncNested
import Derived.RangeFuncBound
import Derived.RangeFuncCalls
import Derived.RangeFuncLeaves
import Derived.Shelf.Abstract
import Derived.Shelf.RegionOpen
import Derived.OwnWalkIn
import Derived.TacticsInMore
import Derived.LoopNIn
import Derived.LoopIn
import Derived.Test.YtmlfoffahfbalaaDoorNext3
namespace Go.Proofs.YtmlfoffahfbalaaDoor
open Go Go.RowKit

/-- a token as it is handed to yield. -/
def encY (y : Yld) : Array Value := #[.agg #[.int .i64 y.kind, .string y.text, .int .i64 y.off], .int .i64 y.err]
/-- all tokens of a source: none is wrong, and the end; or the last one is wrong. -/
def AllY (s : ByteArray) (ys : List Yld) : Prop :=
  (∃ zs e, ys = zs ++ [e] ∧ Runs s (startS s) zs s.size ∧ e.kind = 0 ∧ e.text = ⟨#[]⟩ ∧ e.off = s.size ∧ e.err = 0) ∨
  (∃ zs e b, ys = zs ++ [e] ∧ Runs s (startS s) zs b ∧ b < s.size ∧ (tokS s b).err ≠ 0 ∧ e.off = b ∧ e.err = (tokS s b).err)
/-- a part of them, the last one perhaps wrong. -/
def PartY (s : ByteArray) (ys : List Yld) : Prop :=
  (∃ zs e, ys = zs ++ [e] ∧ Runs s (startS s) zs s.size ∧ e.kind = 0 ∧ e.text = ⟨#[]⟩ ∧ e.off = s.size ∧ e.err = 0) ∨
  (∃ zs e b, ys = zs ++ [e] ∧ Runs s (startS s) zs b ∧ b < s.size ∧ e.off = b ∧ e.err = (tokS s b).err)
/-- what a round must keep: the box of the source, and what was there before. -/
def KpB (Bn B0 : Nat) (W W' : World) : Prop := W'.heap[Bn]? = W.heap[Bn]? ∧ Below B0 W W'

theorem grown_below {W W' : World} (h : Below W.heap.size W W') : W.grownBy W' none := ⟨h.os, h.tape, h.output, h.size, fun k hk _ => h.block k hk⟩

attribute [local go_sem] Oper.semAt_some

set_option maxRecDepth 100000 in
set_option maxHeartbeats 4000000 in
theorem tokens1_in (n : Nat) (hn : 1 ≤ n) (l Bn B0 : Nat) (s : ByteArray) (hs : s.size ≤ 65536) (hB0 : 0 < B0) (J Jx : List Yld → World → Prop) (W0 : World)
    (hJ : AbidesFrom W0.heap.size J)
    (hY : ∀ pre x W, J pre W → pre.length < s.size + 1 → YieldAt Fence.wide (n - 1) Tryd.prog l (encY x) W fun e W' =>
      (e = .returned (.bool true) ∧ J (pre ++ [x]) W' ∧ KpB Bn B0 W W') ∨ (e = .returned (.bool false) ∧ Jx (pre ++ [x]) W'))
    (hBn : Boxed W0 Bn 9 (.string s)) (hm : MaxOk W0) (h0 : J [] W0) :
    CallsIn Fence.wide n Tryd.prog 60 #[.func (.yield l) #[] #[], .pointer (some ⟨Bn, 0, none⟩)] W0 fun e W' => (∃ v, e = .returned v) ∧
      ((∃ ys, AllY s ys ∧ J ys W') ∨ (∃ pre, PartY s pre ∧ Jx pre W')) := by
  have hst := startS_le s
  have hc0 := hBn.cell
  refine callsIn_of_wp Tryd.func60 rfl trivial ?_ rfl
  simp only [Tryd.ntmps60, List.size_toArray, List.length_cons, List.length_nil, Nat.reduceAdd, Nat.reduceSub, Array.replicate_succ, Array.replicate_zero, List.push_toArray, List.append_toArray, List.nil_append, List.cons_append]
  have HBL := Lib.hid (fun (a : Nat) (ha : a ≤ s.size) (w : World) => blanks_any s a w (by omega) ha)
  have HB1 : Hid (∀ w, Calls Tryd.prog 61 #[.string s, .int .i64 0] w fun e w' => e = .returned (.int .i64 (startS s)) ∧ w = w') := Lib.hid (fun w => by
    have := HBL.out 0 (by omega) w
    simpa [startS] using this)
  have HNX := Lib.hid (fun (a : Nat) (ha : a < s.size) (w : World) (hw : MaxOk w) => next_any s a w (by omega) ha hw)
  have HY := Lib.hid hY
  have HJ := Lib.hid hJ
  clear hY hJ
  have hn1 : 1 ≤ n - 1 + 1 := by omega
  gi_wp2_with fail
  refine ⟨trivial, ?_⟩
  refine (callsIn_wide.2 (HB1.out _)).mono ?_
  rintro e w' ⟨rfl, rfl⟩
  gi_wp2
  gi_loopw [3] (fun p wr => ∃ (k : Nat) (ys : List Yld), k ≤ s.size ∧ p = .int .i64 k ∧ Hid (Runs s (startS s) ys k) ∧ Hid (J ys wr) ∧ Boxed wr Bn 9 (.string s) ∧ MaxOk wr ∧ Hid (W0.heap.size ≤ wr.heap.size)) (fun p _ => s.size - (intOf p).toNat)
  case atStart => exact ⟨startS s, [], hst, rfl, Lib.hid rfl, Lib.hid h0, hBn, hm, Lib.hid (Nat.le_refl _)⟩
  case round =>
    clear hBn hm h0 hc0
    obtain ⟨k, ys, hk, rfl, HR, HJy, hBn, hm, HSZ⟩ := hrel
    have hc0 := hBn.cell
    have HBx := Lib.hid hBn
    have HM := Lib.hid hm
    clear hBn hm
    by_cases hlt : k < s.size
    · gi_wp2_with fail
      refine ⟨trivial, ?_⟩
      refine (callsIn_wide.2 (HNX.out k hlt _ HM.out)).mono ?_
      rintro e w1 hnx
      obtain ⟨⟨kd, tx, rfl, hok⟩, hb⟩ := hnx
      have HOK := Lib.hid hok
      clear hok
      obtain ⟨er, her⟩ : ∃ er, (tokS s k).err = er := ⟨_, rfl⟩
      obtain ⟨en, hen⟩ : ∃ en, nxEnd s k = en := ⟨_, rfl⟩
      rw [her, hen]
      rw [her] at HOK
      have HER := Lib.hid her
      have HEN := Lib.hid hen
      clear her hen
      have hsz := hb.size
      have hbn : Bn < wr.heap.size := HBx.out.lt
      have hB1 : Boxed w1 Bn 9 (.string s) := (hb.block Bn hbn).trans HBx.out
      have hc1 := hB1.cell
      have hm1 := HM.out.below hb HM.out.pos
      have hJ1 : J ys (w1.alloc (.cells #[.int .i64 kd, .string tx, .int .i64 k] 36)) :=
        HJ.out _ _ _ none HJy.out (grown_below (hb.alloc hb.size _)) (fun r e => by cases e)
      obtain ⟨fn, tmps, assign, body, hy, hR⟩ := HY.out ys ⟨kd, tx, k, er⟩ _ hJ1 (by have := HR.out.len; omega)
      unfold encY at hy
      simp only at hy
      by_cases h0 : er = 0
      · subst h0
        have hen : en = (((tokS s k).n + k : Nat) : Int) := by rw [← HEN.out, nxEnd, if_pos HER.out, Nat.add_comm]
        have hle := tokS_n s k hlt HER.out
        have HBE := Lib.hid (HBL.out ((tokS s k).n + k) (by omega))
        have HNX2 : Hid ((tokS s k).n + k + skipF false (s.data.toList.drop ((tokS s k).n + k)) = nextAt s k) := Lib.hid (by unfold nextAt; rw [Nat.add_comm (tokS s k).n k])
        rw [HNX2.out] at HBE
        have HLE := Lib.hid (nextAt_le s k hlt HER.out)
        rw [← hen] at HBE
        clear hen hle
        gi_wp2_with fail
        refine hR.mono ?_
        rintro e W' (⟨rfl, hJ', hk⟩ | ⟨rfl, hJx'⟩)
        · have hkb := hk.2
          have hcs : W'.heap[Bn]? = w1.heap[Bn]? := hk.1.trans (Below.heap_alloc _ _ _ hB1.lt)
          have hB2 : Boxed W' Bn 9 (.string s) := hcs.trans hB1
          have hc2 := hB2.cell
          have hm2 : MaxOk W' := (hm1.alloc _).below hkb hB0
          have hsz2 := hkb.size
          simp only [World.size_alloc] at hsz2
          have HSZ2 : Hid (W0.heap.size ≤ W'.heap.size) := Lib.hid (by have := HSZ.out; omega)
          have HJ2 := Lib.hid hJ'
          have HK2 := Lib.hid hk
          clear hJ' hk hkb hcs hR hy hJ1
          gi_wp2_with fail
          refine ⟨trivial, ?_⟩
          refine (callsIn_wide.2 (HBE.out _)).mono ?_
          rintro e w' ⟨rfl, rfl⟩
          gi_wp2_with fail
          go_roundw
          case rel => exact ⟨nextAt s k, ys ++ [⟨kd, tx, k, 0⟩], HLE.out.2, rfl, Lib.hid (Runs.snoc HR.out hlt rfl rfl HER.out (HOK.out trivial).1 (HOK.out trivial).2), HJ2, hB2, hm2, HSZ2⟩
          case measure => have := HLE.out; simp [intOf]; omega
        · clear hy hR hJ1
          gi_wp2_with fail
          refine bodyPost_ret (results_none rfl _ _ _) rfl ?_
          exact ⟨⟨_, rfl⟩, .inr ⟨_, .inr ⟨ys, _, k, rfl, HR.out, hlt, rfl, HER.out.symm⟩, hJx'⟩⟩
      · have h1 : (er == 0) = false := by rw [beq_eq_false_iff_ne]; exact h0
        have H0 := Lib.hid h0
        clear h0
        gi_wp2_with fail
        refine hR.mono ?_
        rintro e W' (⟨rfl, hJ', hk⟩ | ⟨rfl, hJx'⟩)
        · clear hy hR hJ1
          gi_wp2_with fail
          refine bodyPost_ret (results_none rfl _ _ _) rfl ?_
          exact ⟨⟨_, rfl⟩, .inl ⟨_, .inr ⟨ys, _, k, rfl, HR.out, hlt, by rw [HER.out]; exact H0.out, rfl, HER.out.symm⟩, hJ'⟩⟩
        · clear hy hR hJ1
          gi_wp2_with fail
          refine bodyPost_ret (results_none rfl _ _ _) rfl ?_
          exact ⟨⟨_, rfl⟩, .inr ⟨_, .inr ⟨ys, _, k, rfl, HR.out, hlt, rfl, HER.out.symm⟩, hJx'⟩⟩
    · have hkk : k = s.size := by omega
      subst hkk
      obtain ⟨fn, tmps, assign, body, hy, hR⟩ := HY.out ys ⟨0, ⟨#[]⟩, s.size, 0⟩ wr HJy.out (by have := HR.out.len; omega)
      unfold encY at hy
      simp only at hy
      gi_wp2_with fail
      refine hR.mono ?_
      rintro e W' (⟨rfl, hJ', hk⟩ | ⟨rfl, hJx'⟩)
      · clear hy hR
        gi_wp2_with fail
        go_end0
        exact ⟨⟨_, rfl⟩, .inl ⟨_, .inl ⟨ys, _, rfl, HR.out, rfl, rfl, rfl, rfl⟩, hJ'⟩⟩
      · clear hy hR
        gi_wp2_with fail
        go_end0
        exact ⟨⟨_, rfl⟩, .inr ⟨_, .inl ⟨ys, _, rfl, HR.out, rfl, rfl, rfl, rfl⟩, hJx'⟩⟩
end Go.Proofs.YtmlfoffahfbalaaDoor
