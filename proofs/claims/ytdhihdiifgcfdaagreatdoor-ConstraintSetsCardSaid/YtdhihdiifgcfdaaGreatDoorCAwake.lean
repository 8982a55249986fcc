/- The chapter's examples hold. -/
import Derived.Test.YtdhihdiifgcfdaaGreatDoorCFormat
import Derived.Test.YtdhihdiifgcfdaaGreatDoorCRef1
namespace Go.Proofs.YtdhihdiifgcfdaaGreatDoor
set_option linter.unusedVariables false
set_option linter.unusedSimpArgs false
open Go Go.RowKit

theorem f140 : fmtL 1 4 0 = [49, 46, 52, 46, 48] := by unfold fmtL; rw [decL_1 1 (by decide) (by decide), decL_1 4 (by decide) (by decide), decL_1 0 (by decide) (by decide)]; decide
theorem f127 : fmtL 1 2 7 = [49, 46, 50, 46, 55] := by unfold fmtL; rw [decL_1 1 (by decide) (by decide), decL_1 2 (by decide) (by decide), decL_1 7 (by decide) (by decide)]; decide
theorem f123 : fmtL 1 2 3 = [49, 46, 50, 46, 51] := by unfold fmtL; rw [decL_1 1 (by decide) (by decide), decL_1 2 (by decide) (by decide), decL_1 3 (by decide) (by decide)]; decide
theorem aw_can : Can [((2007 : Int), (2008 : Int)), (4000, 1000000)] := can_cons.2 ⟨by decide, fun y hy => by rcases List.mem_singleton.1 hy with rfl; decide, can_cons.2 ⟨by decide, fun y hy => (List.not_mem_nil hy).elim, can_nil⟩⟩
theorem aw_p1 : parseC 1 [94, 49, 46, 52, 46, 48, 32, 124, 32, 49, 46, 50, 46, 55] = ([(2007, 2008), (4000, 1000000)], 0) := by
  have e : altsL [94, 49, 46, 52, 46, 48, 32, 124, 32, 49, 46, 50, 46, 55] = [[94, 49, 46, 52, 46, 48], [49, 46, 50, 46, 55]] := by decide
  have a1 : altV 1 [94, 49, 46, 52, 46, 48] = ((4000, 1000000), 0) := by
    have := alt_hat (a := 1) (b := 4) (c := 0) (by decide)
    rw [f140] at this
    exact this
  have a2 : altV 1 [49, 46, 50, 46, 55] = ((2007, 2008), 0) := by
    have := alt_one (a := 1) (b := 2) (c := 7) (by decide)
    rw [f127] at this
    exact this
  rw [parseC_of (by decide) (by decide) (by rw [e]; decide) (fun a ha => by
    rw [e] at ha
    rcases List.mem_cons.1 ha with rfl | ha
    · rw [a1]
    · rcases List.mem_singleton.1 ha with rfl
      rw [a2]), e]
  simp only [List.map_cons, List.map_nil, a1, a2]
  rw [← canon_eq aw_can (s := [(4000, 1000000), (2007, 2008)]) (fun p => by
    rw [inL_cons, inL_one, inL_cons, inL_one]
    simp only
    omega)]
theorem aw_p2 : parseC 1 [126, 49, 46, 50, 46, 51] = ([(2003, 3000)], 0) := by
  have e : altsL [126, 49, 46, 50, 46, 51] = [[126, 49, 46, 50, 46, 51]] := by decide
  have a1 : altV 1 [126, 49, 46, 50, 46, 51] = ((2003, 3000), 0) := by
    have := alt_tilde (a := 1) (b := 2) (c := 3) (by decide)
    rw [f123] at this
    exact this
  rw [parseC_of (by decide) (by decide) (by rw [e]; decide) (fun a ha => by
    rw [e] at ha
    rcases List.mem_singleton.1 ha with rfl
    rw [a1]), e]
  simp only [List.map_cons, List.map_nil, a1]
  rw [canon_one (by decide) (by decide) (by decide)]
theorem aw_f : formatC 1 [(2007, 2008), (4000, 1000000)] = ([49, 46, 50, 46, 55, 32, 124, 32, 49, 46, 52, 46, 48, 46, 46], 0) := by
  unfold formatC
  rw [if_neg (by decide), canon_of_can aw_can, if_neg (by decide)]
  have t1 : spanT 1 (2007, 2008) = [49, 46, 50, 46, 55] := by
    unfold spanT spanB
    rw [if_neg (by decide), if_pos (by decide), textB_mk, textV_eq (by decide) (by decide) (by decide)]
    exact f127
  have t2 : spanT 1 (4000, 1000000) = [49, 46, 52, 46, 48, 46, 46] := by
    unfold spanT spanB
    rw [if_neg (by decide), if_neg (by decide), if_pos (by decide), ByteArray.data_append, Array.toList_append, textB_mk, textV_eq (by decide) (by decide) (by decide)]
    show fmtL 1 4 0 ++ [46, 46] = _
    rw [f140]
    rfl
  simp only [List.map_cons, List.map_nil, t1, t2]
  decide
theorem edges_new1 (W : World) (a b : Int) : EdgesOf (W.heap.size + 1) (.slice (some ⟨W.heap.size, 0, none⟩) 1 1) [(a, b)] (W.alloc (.cells #[.int .i64 a, .int .i64 b] 49)) :=
  ⟨_, _, rfl, fun i x hx => by
    have hi : i = 0 := by have := (List.getElem?_eq_some_iff.1 hx).1; simpa using this
    subst hi
    cases hx
    exact ⟨W.heap.size, 0, rfl, by omega, by simp [go_sem], by simp [go_sem]⟩⟩
theorem edges_new2 (W : World) (a b c d : Int) : EdgesOf (W.heap.size + 1) (.slice (some ⟨W.heap.size, 0, none⟩) 2 2) [(a, b), (c, d)] (W.alloc (.cells #[.int .i64 a, .int .i64 b, .int .i64 c, .int .i64 d] 49)) :=
  ⟨_, _, rfl, fun i x hx => by
    have hi : i < 2 := by have := (List.getElem?_eq_some_iff.1 hx).1; simpa using this
    rcases (show i = 0 ∨ i = 1 by omega) with rfl | rfl
    · cases hx
      exact ⟨W.heap.size, 0, rfl, by omega, by simp [go_sem], by simp [go_sem]⟩
    · cases hx
      exact ⟨W.heap.size, 0, rfl, by omega, by simp [go_sem], by simp [go_sem]⟩⟩
/-- what the chapter's contracts ask of a world. -/
def EnvOk (w : World) : Prop := MaxOk w ∧ TabOk w
theorem EnvOk.below {w w' : World} (h : EnvOk w) (hb : Below w.heap.size w w') : EnvOk w' := ⟨h.1.below hb h.1.pos, h.2.below hb⟩
theorem EnvOk.alloc {w : World} (h : EnvOk w) (o : Obj) : EnvOk (w.alloc o) := h.below ((Below.refl _ _).alloc (Nat.le_refl _) _)
/-- spans and a world behind: the same spans. -/
theorem EdgesOf.on {w w' : World} {v : Value} {es : List (Int × Int)} (h : EdgesOf w.heap.size v es w) (hb : Below w.heap.size w w') : EdgesOf w'.heap.size v es w' := (h.below hb (Nat.le_refl _)).mono hb.size
theorem bel1 (w : World) (o : Obj) : Below w.heap.size w (w.alloc o) := (Below.refl _ _).alloc (Nat.le_refl _) o
theorem belT {a b c : World} (h : Below a.heap.size a b) (k : Below b.heap.size b c) : Below a.heap.size a c := h.trans (k.mono h.size)
set_option maxRecDepth 100000 in
set_option maxHeartbeats 40000000 in
theorem cawake_any (w : World) (hm : EnvOk w) : Calls Tryz.prog 11 #[] w fun e w' => e = .returned (.bool true) ∧ Below w.heap.size w w' := by
  have HE := Lib.hid hm
  clear hm
  have HC1 := Lib.hid (fun W => Place_any 2 3 4 W)
  rw [show placeV 2 3 4 = (3004, 0) by decide] at HC1
  have HC2 := Lib.hid (fun W (h : EnvOk W) => cParse_any ⟨#[94, 49, 46, 52, 46, 48, 32, 124, 32, 49, 46, 50, 46, 55]⟩ 1 W h.1)
  rw [show (⟨#[94, 49, 46, 52, 46, 48, 32, 124, 32, 49, 46, 50, 46, 55]⟩ : ByteArray).data.toList = [94, 49, 46, 52, 46, 48, 32, 124, 32, 49, 46, 50, 46, 55] from rfl, aw_p1] at HC2
  have HC3 := Lib.hid (fun (W : World) (v : Value) (h : EnvOk W) (hE : EdgesOf W.heap.size v [(2007, 2008), (4000, 1000000)] W) => cFormat_any v [(2007, 2008), (4000, 1000000)] 1 W h.2 (by decide) hE)
  rw [aw_f] at HC3
  have HC4 := Lib.hid (fun W (h : EnvOk W) => cParse_any ⟨#[126, 49, 46, 50, 46, 51]⟩ 1 W h.1)
  rw [show (⟨#[126, 49, 46, 50, 46, 51]⟩ : ByteArray).data.toList = [126, 49, 46, 50, 46, 51] from rfl, aw_p2] at HC4
  have HC5 := Lib.hid (fun (W : World) (v u : Value) (hE : EdgesOf W.heap.size v [(2007, 2008), (4000, 1000000)] W) (hF : EdgesOf W.heap.size u [(2007, 2008), (4000, 1000000)] W) => Same_any v u _ _ W (by decide) (by decide) hE hF)
  have HC6 := Lib.hid (fun (W : World) (v u : Value) (hE : EdgesOf W.heap.size v [(2003, 3000)] W) (hF : EdgesOf W.heap.size u [(2003, 3000)] W) => Same_any v u _ _ W (by decide) (by decide) hE hF)
  simp only [decide_true] at HC5 HC6
  go_enter Tryz.func11, Tryz.ntmps11
  go_wp2_with fail
  (with_reducible refine (HC1.out _).mono ?_)
  rintro e w1 ⟨rfl, hb1⟩
  have HB1 := Lib.hid hb1
  have HE1 := Lib.hid (HE.out.below hb1)
  clear hb1 HC1
  go_wp2_with fail
  (with_reducible refine (HC2.out _ HE1.out).mono ?_)
  rintro e w2 ⟨v2, rfl, hE2, hb2⟩
  have HB2 := Lib.hid (belT HB1.out hb2)
  have HE2 := Lib.hid (HE1.out.below hb2)
  have HV2 := Lib.hid hE2
  clear hb2 HC2
  obtain ⟨ao2, ec2, rfl, _⟩ := hE2
  simp only [List.length_cons, List.length_nil] at *
  go_wp2_with fail
  (with_reducible refine (HC3.out _ _ HE2.out HV2.out).mono ?_)
  rintro e w3 ⟨rfl, hb3⟩
  have HB3 := Lib.hid (belT HB2.out hb3)
  have HE3 := Lib.hid (HE2.out.below hb3)
  have HV3 := Lib.hid (HV2.out.on hb3)
  clear hb3 HC3 HV2
  go_wp2_with fail
  (with_reducible refine (HC4.out _ HE3.out).mono ?_)
  rintro e w4 ⟨v4, rfl, hE4, hb4⟩
  have HB4 := Lib.hid (belT HB3.out hb4)
  have HV4 := Lib.hid (HV3.out.on hb4)
  have HU4 := Lib.hid hE4
  clear hb4 HC4 HV3
  obtain ⟨ao4, ec4, rfl, _⟩ := hE4
  simp only [List.length_cons, List.length_nil] at *
  have HB5 := Lib.hid (bel1 w4 (.cells #[.int .i64 2007, .int .i64 2008, .int .i64 4000, .int .i64 1000000] 49))
  have HN5 := Lib.hid (edges_new2 w4 2007 2008 4000 1000000)
  go_wp2_with fail
  (with_reducible refine (HC5.out _ _ _ (HV4.out.on HB5.out) (HN5.out.mono (by simp))).mono ?_)
  rintro e w6 ⟨rfl, hb6⟩
  have HB6 := Lib.hid (belT (belT HB4.out HB5.out) hb6)
  have HU6 := Lib.hid ((HU4.out.on HB5.out).on hb6)
  clear hb6
  have HB7 := Lib.hid (bel1 w6 (.cells #[.int .i64 2003, .int .i64 3000] 49))
  have HN7 := Lib.hid (edges_new1 w6 2003 3000)
  go_wp2_with fail
  (with_reducible refine (HC6.out _ _ _ (HU6.out.on HB7.out) (HN7.out.mono (by simp))).mono ?_)
  rintro e w8 ⟨rfl, hb8⟩
  have HB8 := Lib.hid (belT (belT HB6.out HB7.out) hb8)
  clear hb8
  go_wp2_with fail
  go_ret
  exact ⟨rfl, HB8.out⟩
end Go.Proofs.YtdhihdiifgcfdaaGreatDoor
