/- The example of minimal version selection holds. The law MvsSatisfies returns true. Contract of the reference's decimal. -/
import Derived.Test.YtenfkejbndifdaaGreatDoorUZ
import Derived.Test.YtenfkejbndifdaaGreatDoorVA
import Derived.Test.YtenfkejbndifdaaGreatDoorVC
import Derived.Test.YtenfkejbndifdaaGreatDoorUI
import Derived.Test.YtenfkejbndifdaaGreatDoorUM
import Derived.Test.YtenfkejbndifdaaGreatDoorUB
namespace Go.Proofs.YtenfkejbndifdaaGreatDoor
set_option linter.unusedVariables false
set_option linter.unusedSimpArgs false
open Go Go.RowKit

theorem spans_on {w w' : World} {v : Value} {es : List (Int × Int)} (h : SpansOf w.heap.size v es w) (hb : Below w.heap.size w w') : SpansOf w'.heap.size v es w' := (h.below hb (Nat.le_refl _)).mono hb.size
theorem ex_sbd : ∀ y ∈ [selA, selB, selCC], SelBd y := fun y hy => by
  simp only [List.mem_cons, List.not_mem_nil, or_false] at hy
  rcases hy with rfl | rfl | rfl <;> exact ⟨of_decide_eq_true (by decide +kernel), ⟨by decide, by decide⟩, ⟨by decide, by decide⟩, ⟨by decide, by decide⟩⟩
structure AwB (w : World) (gx gr : Nat) (W : World) : Prop where
  bel : Below w.heap.size w W
  idx : W.heap[gx]? = some (.cells #[.slice (some ⟨gr, 0, none⟩) 6 6, .slice none 0 0] 25 (0, 0))
  rel : RelsOf W.heap.size (.slice (some ⟨gr, 0, none⟩) 6 6) exX W
theorem AwB.below {w W W' : World} {gx gr : Nat} (h : AwB w gx gr W) (hb : Below W.heap.size W W') : AwB w gx gr W' := ⟨h.bel.trans (hb.mono h.bel.size), (hb.block _ (Array.getElem?_eq_some_iff.1 h.idx).1).trans h.idx, h.rel.on hb⟩
theorem AwB.start {w W : World} {gr : Nat} (hb : Below w.heap.size w W) (h : RelsOf W.heap.size (.slice (some ⟨gr, 0, none⟩) 6 6) exX W) : AwB w W.heap.size gr (W.alloc (.cells #[.slice (some ⟨gr, 0, none⟩) 6 6, .slice none 0 0] 25)) := ⟨hb.alloc hb.size _, World.alloc_heap_new W _, h.on (belQ _ _)⟩
def SelBox (W : World) (g : Nat) (y : SelL) : Prop := W.heap[g]? = some (.cells #[.string y.1, .int .i64 y.2.1, .int .i64 y.2.2.1, .int .i64 y.2.2.2] 43 (0, 0))
theorem SelBox.on {W W' : World} {g : Nat} {y : SelL} (h : SelBox W g y) (hb : Below W.heap.size W W') : SelBox W' g y := (hb.block _ (Array.getElem?_eq_some_iff.1 h).1).trans h
theorem three_at (W : World) (o1 o2 o3 : Obj) : (((W.alloc o1).alloc o2).alloc o3).heap[W.heap.size]? = some o1 ∧ (((W.alloc o1).alloc o2).alloc o3).heap[W.heap.size + 1]? = some o2 ∧ (((W.alloc o1).alloc o2).alloc o3).heap[W.heap.size + 1 + 1]? = some o3 := by
  have hget : ∀ (w : World) (o : Obj) (k : Nat), (w.alloc o).heap[k]? = if k = w.heap.size then some o else w.heap[k]? := fun w o k => by
    show (w.heap.push o)[k]? = _
    rw [Array.getElem?_push]
  refine ⟨?_, ?_, ?_⟩
  all_goals (simp only [hget, World.size_alloc]; repeat (first | rw [if_pos trivial] | rw [if_neg (by omega)] | rw [if_pos (by omega)]))
theorem keep3v {W W' : World} {g : Nat} {x y z : Value} (hg : g < W.heap.size) (h0 : W.cell? ⟨g, 0, none⟩ = some x) (h1 : W.cell? ⟨g, 1, none⟩ = some y) (h2 : W.cell? ⟨g, 2, none⟩ = some z) (hb : Below W.heap.size W W') : W'.cell? ⟨g, 0, none⟩ = some x ∧ W'.cell? ⟨g, 1, none⟩ = some y ∧ W'.cell? ⟨g, 2, none⟩ = some z :=
  ⟨(hb.cell (p := ⟨g, 0, none⟩) hg).trans h0, (hb.cell (p := ⟨g, 1, none⟩) hg).trans h1, (hb.cell (p := ⟨g, 2, none⟩) hg).trans h2⟩
set_option maxRecDepth 100000 in
set_option maxHeartbeats 16000000 in
theorem awake34_any (w : World) (hm : MaxOk w) : Calls Tryz.prog 11 #[] w fun e w' => e = .returned (.bool true) ∧ Below w.heap.size w w' := by
  have HM := Lib.hid hm
  have HND := Lib.hid need34_any
  have HRL := Lib.hid rel34_any
  clear hm
  go_enter Tryz.func11, Tryz.ntmps11
  go_wp2_with fail
  refine (HND.out bB 1 _ (by omega)).mono ?_
  rintro e w1 ⟨s1, rfl, hs1, hb1⟩
  have HB1 := Lib.hid hb1
  have HS1 := Lib.hid hs1
  clear hb1 hs1
  go_wp2_with fail
  refine (HND.out bC 0 _ (by omega)).mono ?_
  rintro e w2 ⟨s2, rfl, hs2, hb2⟩
  have HB2 := Lib.hid (HB1.out.trans (hb2.mono HB1.out.size))
  have HS12 := Lib.hid ((HS1.out.below hb2 (Nat.le_refl _)).mono hb2.size)
  have HS2 := Lib.hid hs2
  clear hb2 hs2 HS1 HB1
  have HQ := Lib.hid (World.alloc_heap_new w2 (.cells #[.string bB, s1, .string bC, s2] 58))
  have HBQ := Lib.hid (belQ w2 (.cells #[.string bB, s1, .string bC, s2] 58))
  have HR0 := Lib.hid (reqs_lit2 HQ.out (spans_on HS12.out HBQ.out) (spans_on HS2.out HBQ.out))
  have HB3 := Lib.hid (HB2.out.trans (HBQ.out.mono HB2.out.size))
  clear HS12 HS2
  go_wp2_with fail
  generalize w2.alloc (.cells #[.string bB, s1, .string bC, s2] 58) = w3 at *
  generalize w2.heap.size = g0 at *
  refine (HRL.out bA 0 _ 2 2 [needQ bB 1000, needQ bC 0] _).mono ?_
  rintro e w4 ⟨rfl, hb4⟩
  have HB4 := Lib.hid (HB3.out.trans (hb4.mono HB3.out.size))
  have HR04 := Lib.hid (HR0.out.on hb4)
  clear hb4 HB3 HR0 HQ HBQ HB2
  simp only [relC, exR]
  go_wp2_with fail
  refine (HRL.out bB 0 none 0 0 [] _).mono ?_
  rintro e w5 ⟨rfl, hb5⟩
  have HB5 := Lib.hid (HB4.out.trans (hb5.mono HB4.out.size))
  have HR05 := Lib.hid (HR04.out.on hb5)
  clear hb5 HB4 HR04
  simp only [relC, exR]
  go_wp2_with fail
  refine (HRL.out bB 1 none 0 0 [] _).mono ?_
  rintro e w6 ⟨rfl, hb6⟩
  have HB6 := Lib.hid (HB5.out.trans (hb6.mono HB5.out.size))
  have HR06 := Lib.hid (HR05.out.on hb6)
  clear hb6 HB5 HR05
  simp only [relC, exR]
  go_wp2_with fail
  refine (HRL.out bB 2 none 0 0 [] _).mono ?_
  rintro e w7 ⟨rfl, hb7⟩
  have HB7 := Lib.hid (HB6.out.trans (hb7.mono HB6.out.size))
  have HR07 := Lib.hid (HR06.out.on hb7)
  clear hb7 HB6 HR06
  simp only [relC, exR]
  go_wp2_with fail
  refine (HRL.out bB 3 none 0 0 [] _).mono ?_
  rintro e w8 ⟨rfl, hb8⟩
  have HB8 := Lib.hid (HB7.out.trans (hb8.mono HB7.out.size))
  have HR08 := Lib.hid (HR07.out.on hb8)
  clear hb8 HB7 HR07
  simp only [relC, exR]
  go_wp2_with fail
  refine (HND.out bB 2 _ (by omega)).mono ?_
  rintro e w9 ⟨s3, rfl, hs3, hb9⟩
  have HB9 := Lib.hid (HB8.out.trans (hb9.mono HB8.out.size))
  have HR09 := Lib.hid (HR08.out.on hb9)
  have HS3 := Lib.hid hs3
  clear hb9 hs3 HB8 HR08
  have HQ := Lib.hid (World.alloc_heap_new w9 (.cells #[.string bB, s3] 58))
  have HBQ := Lib.hid (belQ w9 (.cells #[.string bB, s3] 58))
  have HR5 := Lib.hid (reqs_lit1 HQ.out (spans_on HS3.out HBQ.out))
  have HR010 := Lib.hid (HR09.out.on HBQ.out)
  have HB10 := Lib.hid (HB9.out.trans (HBQ.out.mono HB9.out.size))
  go_wp2_with fail
  generalize w9.alloc (.cells #[.string bB, s3] 58) = w10 at *
  generalize w9.heap.size = g5 at *
  refine (HRL.out bC 0 _ 1 1 [needQ bB 2000] _).mono ?_
  rintro e w11 ⟨rfl, hb11⟩
  have HB11 := Lib.hid (HB10.out.trans (hb11.mono HB10.out.size))
  have HR011 := Lib.hid (HR010.out.on hb11)
  have HR511 := Lib.hid (HR5.out.on hb11)
  clear hb11 HB10 HR010 HR5 HQ HBQ HB9 HR09 HS3
  simp only [relC, exR]
  go_upto_region 3 with fail
  have HQ := Lib.hid (World.alloc_heap_new w11 (.cells #[.string bA, .int .i64 1, .int .i64 0, .int .i64 0, .slice (some ⟨g0, 0, none⟩) 2 2, .string ⟨#[]⟩, .string ⟨#[]⟩, .string ⟨#[]⟩, .bool false, .string bB, .int .i64 1, .int .i64 0, .int .i64 0, .slice none 0 0, .string ⟨#[]⟩, .string ⟨#[]⟩, .string ⟨#[]⟩, .bool false, .string bB, .int .i64 1, .int .i64 1, .int .i64 0, .slice none 0 0, .string ⟨#[]⟩, .string ⟨#[]⟩, .string ⟨#[]⟩, .bool false, .string bB, .int .i64 1, .int .i64 2, .int .i64 0, .slice none 0 0, .string ⟨#[]⟩, .string ⟨#[]⟩, .string ⟨#[]⟩, .bool false, .string bB, .int .i64 1, .int .i64 3, .int .i64 0, .slice none 0 0, .string ⟨#[]⟩, .string ⟨#[]⟩, .string ⟨#[]⟩, .bool false, .string bC, .int .i64 1, .int .i64 0, .int .i64 0, .slice (some ⟨g5, 0, none⟩) 1 1, .string ⟨#[]⟩, .string ⟨#[]⟩, .string ⟨#[]⟩, .bool false] 71))
  have HBQ := Lib.hid (belQ w11 (.cells #[.string bA, .int .i64 1, .int .i64 0, .int .i64 0, .slice (some ⟨g0, 0, none⟩) 2 2, .string ⟨#[]⟩, .string ⟨#[]⟩, .string ⟨#[]⟩, .bool false, .string bB, .int .i64 1, .int .i64 0, .int .i64 0, .slice none 0 0, .string ⟨#[]⟩, .string ⟨#[]⟩, .string ⟨#[]⟩, .bool false, .string bB, .int .i64 1, .int .i64 1, .int .i64 0, .slice none 0 0, .string ⟨#[]⟩, .string ⟨#[]⟩, .string ⟨#[]⟩, .bool false, .string bB, .int .i64 1, .int .i64 2, .int .i64 0, .slice none 0 0, .string ⟨#[]⟩, .string ⟨#[]⟩, .string ⟨#[]⟩, .bool false, .string bB, .int .i64 1, .int .i64 3, .int .i64 0, .slice none 0 0, .string ⟨#[]⟩, .string ⟨#[]⟩, .string ⟨#[]⟩, .bool false, .string bC, .int .i64 1, .int .i64 0, .int .i64 0, .slice (some ⟨g5, 0, none⟩) 1 1, .string ⟨#[]⟩, .string ⟨#[]⟩, .string ⟨#[]⟩, .bool false] 71))
  have HX0 := Lib.hid (rels_ex HQ.out (HR011.out.on HBQ.out) (HR511.out.on HBQ.out))
  have HAB := Lib.hid (AwB.start (HB11.out.trans (HBQ.out.mono HB11.out.size)) HX0.out)
  have hgx : (w11.alloc (.cells #[.string bA, .int .i64 1, .int .i64 0, .int .i64 0, .slice (some ⟨g0, 0, none⟩) 2 2, .string ⟨#[]⟩, .string ⟨#[]⟩, .string ⟨#[]⟩, .bool false, .string bB, .int .i64 1, .int .i64 0, .int .i64 0, .slice none 0 0, .string ⟨#[]⟩, .string ⟨#[]⟩, .string ⟨#[]⟩, .bool false, .string bB, .int .i64 1, .int .i64 1, .int .i64 0, .slice none 0 0, .string ⟨#[]⟩, .string ⟨#[]⟩, .string ⟨#[]⟩, .bool false, .string bB, .int .i64 1, .int .i64 2, .int .i64 0, .slice none 0 0, .string ⟨#[]⟩, .string ⟨#[]⟩, .string ⟨#[]⟩, .bool false, .string bB, .int .i64 1, .int .i64 3, .int .i64 0, .slice none 0 0, .string ⟨#[]⟩, .string ⟨#[]⟩, .string ⟨#[]⟩, .bool false, .string bC, .int .i64 1, .int .i64 0, .int .i64 0, .slice (some ⟨g5, 0, none⟩) 1 1, .string ⟨#[]⟩, .string ⟨#[]⟩, .string ⟨#[]⟩, .bool false] 71)).heap.size = w11.heap.size + 1 := World.size_alloc _ _
  rw [hgx] at HAB
  clear HQ HBQ HX0 hgx HB11 HR011 HR511
  generalize hW12 : (w11.alloc (.cells #[.string bA, .int .i64 1, .int .i64 0, .int .i64 0, .slice (some ⟨g0, 0, none⟩) 2 2, .string ⟨#[]⟩, .string ⟨#[]⟩, .string ⟨#[]⟩, .bool false, .string bB, .int .i64 1, .int .i64 0, .int .i64 0, .slice none 0 0, .string ⟨#[]⟩, .string ⟨#[]⟩, .string ⟨#[]⟩, .bool false, .string bB, .int .i64 1, .int .i64 1, .int .i64 0, .slice none 0 0, .string ⟨#[]⟩, .string ⟨#[]⟩, .string ⟨#[]⟩, .bool false, .string bB, .int .i64 1, .int .i64 2, .int .i64 0, .slice none 0 0, .string ⟨#[]⟩, .string ⟨#[]⟩, .string ⟨#[]⟩, .bool false, .string bB, .int .i64 1, .int .i64 3, .int .i64 0, .slice none 0 0, .string ⟨#[]⟩, .string ⟨#[]⟩, .string ⟨#[]⟩, .bool false, .string bC, .int .i64 1, .int .i64 0, .int .i64 0, .slice (some ⟨g5, 0, none⟩) 1 1, .string ⟨#[]⟩, .string ⟨#[]⟩, .string ⟨#[]⟩, .bool false] 71)).alloc (.cells #[.slice (some ⟨w11.heap.size, 0, none⟩) 6 6, .slice none 0 0] 25) = w12 at *
  generalize w11.heap.size + 1 = gx at *
  generalize w11.heap.size = gr at *
  clear hW12
  go_wp2_with fail
  refine (HND.out bA 0 _ (by omega)).mono ?_
  rintro e w13 ⟨s4, rfl, hs4, hb13⟩
  have HA13 := Lib.hid (HAB.out.below hb13)
  have HS4 := Lib.hid hs4
  clear hb13 hs4 HAB
  have HQ := Lib.hid (World.alloc_heap_new w13 (.cells #[.string bA, s4] 58))
  have HBQ := Lib.hid (belQ w13 (.cells #[.string bA, s4] 58))
  have HT14 : Hid (ReqsOf (w13.alloc (.cells #[.string bA, s4] 58)).heap.size (.slice (some ⟨w13.heap.size, 0, none⟩) 1 1) exT (w13.alloc (.cells #[.string bA, s4] 58))) := Lib.hid (reqs_lit1 HQ.out (spans_on HS4.out HBQ.out))
  have HA14 := Lib.hid (HA13.out.below HBQ.out)
  go_upto_region 4 with fail
  generalize w13.alloc (.cells #[.string bA, s4] 58) = w14 at *
  generalize w13.heap.size = gt at *
  clear HQ HBQ HA13 HS4
  have HV15 := Lib.hid (World.alloc_heap_new w14 (.cells #[.int .i64 1, .int .i64 0, .int .i64 0] 41))
  have HBQ := Lib.hid (belQ w14 (.cells #[.int .i64 1, .int .i64 0, .int .i64 0] 41))
  have HA15 := Lib.hid (HA14.out.below HBQ.out)
  have HT15 := Lib.hid (HT14.out.on HBQ.out)
  go_upto_region 5 with fail
  generalize w14.alloc (.cells #[.int .i64 1, .int .i64 0, .int .i64 0] 41) = w15 at *
  generalize w14.heap.size = gv at *
  clear HBQ HA14 HT14
  have e0 : w15.cell? ⟨gv, 0, none⟩ = some (.int .i64 1) := cell_of_row _ _ 0 _ _ _ HV15.out
  have e1 : w15.cell? ⟨gv, 1, none⟩ = some (.int .i64 0) := cell_of_row _ _ 1 _ _ _ HV15.out
  have e2 : w15.cell? ⟨gv, 2, none⟩ = some (.int .i64 0) := cell_of_row _ _ 2 _ _ _ HV15.out
  have hgv : gv < w15.heap.size := (Array.getElem?_eq_some_iff.1 HV15.out).1
  go_cut [5, 6, 7] (fun s5 s6 s7 wx => ∃ ga gb gc : Nat, s5 = .pointer (some ⟨ga, 0, none⟩) ∧ s6 = .pointer (some ⟨gb, 0, none⟩) ∧ s7 = .pointer (some ⟨gc, 0, none⟩) ∧ Hid (SelBox wx ga selA) ∧ Hid (SelBox wx gb selB) ∧ Hid (SelBox wx gc selCC) ∧ Hid (Below w15.heap.size w15 wx))
  case first =>
    go_region_held3 (fun w' => w'.cell? ⟨gv, 0, none⟩ = some (.int .i64 1) ∧ w'.cell? ⟨gv, 1, none⟩ = some (.int .i64 0) ∧ w'.cell? ⟨gv, 2, none⟩ = some (.int .i64 0)) ((exact keep3v hgv e0 e1 e2 (by repeat (first | exact Below.refl _ _ | refine Below.drew ?_ | refine Below.alloc ?_ (by simp <;> omega) _ | refine Below.setCell ?_ (by simp <;> omega) _))))
      (fail)
    all_goals
      go_wp2_with fail
      go_meet
      refine ⟨_, _, _, rfl, rfl, rfl, Lib.hid ?_, Lib.hid ?_, Lib.hid ?_, Lib.hid ?_⟩
      all_goals first | exact (three_at _ _ _ _).1 | exact (three_at _ _ _ _).2.1 | exact (three_at _ _ _ _).2.2 | exact (by repeat (first | exact Below.refl _ _ | refine Below.drew ?_ | refine Below.alloc ?_ (by simp <;> omega) _ | refine Below.setCell ?_ (by simp <;> omega) _))
  case rest =>
    obtain ⟨ga, gb, gc, rfl, rfl, rfl, HSA, HSB, HSC, HB16⟩ := hcut
    generalize wc = w16 at *
    have HA16 := Lib.hid (HA15.out.below HB16.out)
    have HT16 := Lib.hid (HT15.out.on HB16.out)
    clear HA15 HT15 HB16 HV15 e0 e1 e2 hgv
    have HSE := Lib.hid (fun W (hb : RowKit.Below w.heap.size w W) (hA : AwB w gx gr W) (hT : ReqsOf W.heap.size (.slice (some ⟨gt, 0, none⟩) 1 1) exT W) => MSelect_any (.slice (some ⟨gr, 0, none⟩) 6 6) (.slice none 0 0) (.slice (some ⟨gt, 0, none⟩) 1 1) exX exT W (HM.out.below hb HM.out.pos) (by decide) ex_bd hA.rel (by decide) ex_rbd hT)
    have HWY := Lib.hid (fun W (hb : RowKit.Below w.heap.size w W) (hA : AwB w gx gr W) (hT : ReqsOf W.heap.size (.slice (some ⟨gt, 0, none⟩) 1 1) exT W) => Why_any (.slice (some ⟨gr, 0, none⟩) 6 6) (.slice none 0 0) (.slice (some ⟨gt, 0, none⟩) 1 1) exX exT bB W (HM.out.below hb HM.out.pos) (by decide) ex_bd hA.rel (by decide) ex_rbd hT)
    have HPL := Lib.hid (fun W (hb : RowKit.Below w.heap.size w W) (hA : AwB w gx gr W) (hT : ReqsOf W.heap.size (.slice (some ⟨gt, 0, none⟩) 1 1) exT W) => MPlain_any (.slice (some ⟨gr, 0, none⟩) 6 6) (.slice none 0 0) (.slice (some ⟨gt, 0, none⟩) 1 1) exX exT W (HM.out.below hb HM.out.pos) (by decide) ex_bd hA.rel (by decide) ex_rbd hT)
    unfold SelR at HSE
    unfold WhyR at HWY
    rw [ex_sel] at HSE
    rw [ex_why] at HWY
    have c0 : w16.cell? ⟨gx, 0, none⟩ = some (.slice (some ⟨gr, 0, none⟩) 6 6) := cell_of_row _ _ 0 _ _ _ HA16.out.idx
    have c1 : w16.cell? ⟨gx, 1, none⟩ = some (.slice none 0 0) := cell_of_row _ _ 1 _ _ _ HA16.out.idx
    go_wp2_with fail
    refine (HSE.out _ HA16.out.bel HA16.out HT16.out).mono ?_
    rintro e w17 ⟨hb17, sv, rfl, hs17⟩
    have HA17 := Lib.hid (HA16.out.below hb17)
    have HT17 := Lib.hid (HT16.out.on hb17)
    have HSA17 := Lib.hid (HSA.out.on hb17)
    have HSB17 := Lib.hid (HSB.out.on hb17)
    have HSC17 := Lib.hid (HSC.out.on hb17)
    have HS17 := Lib.hid hs17
    obtain ⟨sa, sc, rfl⟩ : ∃ sa sc, sv = .slice sa 3 sc := by obtain ⟨a, c, e, _⟩ := hs17; exact ⟨a, c, e⟩
    clear hb17 hs17 c0 c1 HA16 HT16 HSA HSB HSC
    have c0 : w17.cell? ⟨gx, 0, none⟩ = some (.slice (some ⟨gr, 0, none⟩) 6 6) := cell_of_row _ _ 0 _ _ _ HA17.out.idx
    have c1 : w17.cell? ⟨gx, 1, none⟩ = some (.slice none 0 0) := cell_of_row _ _ 1 _ _ _ HA17.out.idx
    go_wp2_with fail
    refine (HWY.out _ HA17.out.bel HA17.out HT17.out).mono ?_
    rintro e w18 ⟨hb18, cv, rfl, hc18, _⟩
    have HA18 := Lib.hid (HA17.out.below hb18)
    have HT18 := Lib.hid (HT17.out.on hb18)
    have HSA18 := Lib.hid (HSA17.out.on hb18)
    have HSB18 := Lib.hid (HSB17.out.on hb18)
    have HSC18 := Lib.hid (HSC17.out.on hb18)
    have HS18 := Lib.hid (HS17.out.on hb18)
    have HC18 := Lib.hid hc18
    obtain ⟨ca, cc, rfl⟩ : ∃ sa sc, cv = .slice sa 3 sc := by obtain ⟨a, c, e, _⟩ := hc18; exact ⟨a, c, e⟩
    clear hb18 hc18 c0 c1 HA17 HT17 HSA17 HSB17 HSC17 HS17
    simp only
    have HK19 := Lib.hid (World.alloc_heap_new w18 (.cells #[.string bB, .int .i64 0, .slice ca 3 cc] 29))
    have HBQ := Lib.hid (belQ w18 (.cells #[.string bB, .int .i64 0, .slice ca 3 cc] 29))
    go_upto_region 8 with fail
    have HA19 := Lib.hid (HA18.out.below HBQ.out)
    have HT19 := Lib.hid (HT18.out.on HBQ.out)
    have HSA19 := Lib.hid (HSA18.out.on HBQ.out)
    have HSB19 := Lib.hid (HSB18.out.on HBQ.out)
    have HSC19 := Lib.hid (HSC18.out.on HBQ.out)
    have HS19 := Lib.hid (HS18.out.on HBQ.out)
    have HC19 := Lib.hid (HC18.out.on HBQ.out)
    generalize w18.alloc (.cells #[.string bB, .int .i64 0, .slice ca 3 cc] 29) = w19 at *
    generalize w18.heap.size = gk at *
    clear HBQ HA18 HT18 HSA18 HSB18 HSC18 HS18 HC18
    have HRD := Lib.hid (Reduce_any (.slice (some ⟨gr, 0, none⟩) 6 6) (.slice none 0 0) (.slice sa 3 sc) exX [selA, selB, selCC] w19 (HM.out.below HA19.out.bel HM.out.pos) (by decide) ex_bd HA19.out.rel (by decide) ex_sbd HS19.out)
    unfold ReduceR at HRD
    rw [ex_reduce] at HRD
    have x0 : w19.cell? ⟨gx, 0, none⟩ = some (.slice (some ⟨gr, 0, none⟩) 6 6) := cell_of_row _ _ 0 _ _ _ HA19.out.idx
    have x1 : w19.cell? ⟨gx, 1, none⟩ = some (.slice none 0 0) := cell_of_row _ _ 1 _ _ _ HA19.out.idx
    go_wp2_with fail
    refine HRD.out.mono ?_
    rintro e w20 ⟨hb20, rv, rfl, hr20, _⟩
    have HR20 := Lib.hid hr20
    obtain ⟨qa, qc, rfl⟩ : ∃ sa sc, rv = .slice sa 1 sc := by obtain ⟨a, c, e, _⟩ := hr20; exact ⟨a, c, e⟩
    have HA20 := Lib.hid (HA19.out.below hb20)
    have HT20 := Lib.hid (HT19.out.on hb20)
    have HSA20 := Lib.hid (HSA19.out.on hb20)
    have HSB20 := Lib.hid (HSB19.out.on hb20)
    have HSC20 := Lib.hid (HSC19.out.on hb20)
    have HS20 := Lib.hid (HS19.out.on hb20)
    have HC20 := Lib.hid (HC19.out.on hb20)
    have HK20 := Lib.hid ((hb20.block gk (Array.getElem?_eq_some_iff.1 HK19.out).1).trans HK19.out)
    clear hb20 hr20 HRD x0 x1 HA19 HT19 HSA19 HSB19 HSC19 HS19 HC19 HK19
    have x0 : w20.cell? ⟨gx, 0, none⟩ = some (.slice (some ⟨gr, 0, none⟩) 6 6) := cell_of_row _ _ 0 _ _ _ HA20.out.idx
    have x1 : w20.cell? ⟨gx, 1, none⟩ = some (.slice none 0 0) := cell_of_row _ _ 1 _ _ _ HA20.out.idx
    go_wp2_with fail
    refine (HPL.out _ HA20.out.bel HA20.out HT20.out).mono ?_
    rintro e w21 ⟨hb21, pb, rfl, hpb⟩
    obtain rfl : pb = true := hpb.2 ex_plain
    have HA21 := Lib.hid (HA20.out.below hb21)
    have HT21 := Lib.hid (HT20.out.on hb21)
    have HSA21 := Lib.hid (HSA20.out.on hb21)
    have HSB21 := Lib.hid (HSB20.out.on hb21)
    have HSC21 := Lib.hid (HSC20.out.on hb21)
    have HS21 := Lib.hid (HS20.out.on hb21)
    have HC21 := Lib.hid (HC20.out.on hb21)
    have HK21 := Lib.hid ((hb21.block gk (Array.getElem?_eq_some_iff.1 HK20.out).1).trans HK20.out)
    have HR21 := Lib.hid (HR20.out.on hb21)
    clear hb21 hpb x0 x1 HA20 HT20 HSA20 HSB20 HSC20 HS20 HC20 HK20 HR20
    have a0 : w21.cell? ⟨ga, 0, none⟩ = some (.string selA.1) := cell_of_row _ _ 0 _ _ _ HSA21.out
    have a1 : w21.cell? ⟨ga, 1, none⟩ = some (.int .i64 selA.2.1) := cell_of_row _ _ 1 _ _ _ HSA21.out
    have a2 : w21.cell? ⟨ga, 2, none⟩ = some (.int .i64 selA.2.2.1) := cell_of_row _ _ 2 _ _ _ HSA21.out
    have a3 : w21.cell? ⟨ga, 3, none⟩ = some (.int .i64 selA.2.2.2) := cell_of_row _ _ 3 _ _ _ HSA21.out
    have b0 : w21.cell? ⟨gb, 0, none⟩ = some (.string selB.1) := cell_of_row _ _ 0 _ _ _ HSB21.out
    have b1 : w21.cell? ⟨gb, 1, none⟩ = some (.int .i64 selB.2.1) := cell_of_row _ _ 1 _ _ _ HSB21.out
    have b2 : w21.cell? ⟨gb, 2, none⟩ = some (.int .i64 selB.2.2.1) := cell_of_row _ _ 2 _ _ _ HSB21.out
    have b3 : w21.cell? ⟨gb, 3, none⟩ = some (.int .i64 selB.2.2.2) := cell_of_row _ _ 3 _ _ _ HSB21.out
    have c0 : w21.cell? ⟨gc, 0, none⟩ = some (.string selCC.1) := cell_of_row _ _ 0 _ _ _ HSC21.out
    have c1 : w21.cell? ⟨gc, 1, none⟩ = some (.int .i64 selCC.2.1) := cell_of_row _ _ 1 _ _ _ HSC21.out
    have c2 : w21.cell? ⟨gc, 2, none⟩ = some (.int .i64 selCC.2.2.1) := cell_of_row _ _ 2 _ _ _ HSC21.out
    have c3 : w21.cell? ⟨gc, 3, none⟩ = some (.int .i64 selCC.2.2.2) := cell_of_row _ _ 3 _ _ _ HSC21.out
    have HL22 := Lib.hid (sels_lit3 selA selB selCC (World.alloc_heap_new w21 (.cells #[.string selA.1, .int .i64 selA.2.1, .int .i64 selA.2.2.1, .int .i64 selA.2.2.2, .string selB.1, .int .i64 selB.2.1, .int .i64 selB.2.2.1, .int .i64 selB.2.2.2, .string selCC.1, .int .i64 selCC.2.1, .int .i64 selCC.2.2.1, .int .i64 selCC.2.2.2] 43)))
    have HBQ := Lib.hid (belQ w21 (.cells #[.string selA.1, .int .i64 selA.2.1, .int .i64 selA.2.2.1, .int .i64 selA.2.2.2, .string selB.1, .int .i64 selB.2.1, .int .i64 selB.2.2.1, .int .i64 selB.2.2.2, .string selCC.1, .int .i64 selCC.2.1, .int .i64 selCC.2.2.1, .int .i64 selCC.2.2.2] 43))
    have HEQ := Lib.hid (eq_sels (.slice sa 3 sc) (.slice (some ⟨w21.heap.size, 0, none⟩) 3 3) [selA, selB, selCC] [selA, selB, selCC] _ (by decide) (by decide) (HS21.out.on HBQ.out) HL22.out)
    rw [decide_eq_true rfl] at HEQ
    go_wp2_with fail
    refine HEQ.out.mono ?_
    rintro e w22 ⟨rfl, hb22⟩
    have HBX := Lib.hid (HBQ.out.trans (hb22.mono HBQ.out.size))
    have HA22 := Lib.hid (HA21.out.below HBX.out)
    have HT22 := Lib.hid (HT21.out.on HBX.out)
    have HSA22 := Lib.hid (HSA21.out.on HBX.out)
    have HSB22 := Lib.hid (HSB21.out.on HBX.out)
    have HSC22 := Lib.hid (HSC21.out.on HBX.out)
    have HS22 := Lib.hid (HS21.out.on HBX.out)
    have HC22 := Lib.hid (HC21.out.on HBX.out)
    have HK22 := Lib.hid ((HBX.out.block gk (Array.getElem?_eq_some_iff.1 HK21.out).1).trans HK21.out)
    have HR22 := Lib.hid (HR21.out.on HBX.out)
    clear hb22 HEQ HL22 HBQ HBX HA21 HT21 HSA21 HSB21 HSC21 HS21 HC21 HK21 HR21 a0 a1 a2 a3 b0 b1 b2 b3 c0 c1 c2 c3
    have a0 : w22.cell? ⟨ga, 0, none⟩ = some (.string selA.1) := cell_of_row _ _ 0 _ _ _ HSA22.out
    have a1 : w22.cell? ⟨ga, 1, none⟩ = some (.int .i64 selA.2.1) := cell_of_row _ _ 1 _ _ _ HSA22.out
    have a2 : w22.cell? ⟨ga, 2, none⟩ = some (.int .i64 selA.2.2.1) := cell_of_row _ _ 2 _ _ _ HSA22.out
    have a3 : w22.cell? ⟨ga, 3, none⟩ = some (.int .i64 selA.2.2.2) := cell_of_row _ _ 3 _ _ _ HSA22.out
    have b0 : w22.cell? ⟨gb, 0, none⟩ = some (.string selB.1) := cell_of_row _ _ 0 _ _ _ HSB22.out
    have b1 : w22.cell? ⟨gb, 1, none⟩ = some (.int .i64 selB.2.1) := cell_of_row _ _ 1 _ _ _ HSB22.out
    have b2 : w22.cell? ⟨gb, 2, none⟩ = some (.int .i64 selB.2.2.1) := cell_of_row _ _ 2 _ _ _ HSB22.out
    have b3 : w22.cell? ⟨gb, 3, none⟩ = some (.int .i64 selB.2.2.2) := cell_of_row _ _ 3 _ _ _ HSB22.out
    have c0 : w22.cell? ⟨gc, 0, none⟩ = some (.string selCC.1) := cell_of_row _ _ 0 _ _ _ HSC22.out
    have c1 : w22.cell? ⟨gc, 1, none⟩ = some (.int .i64 selCC.2.1) := cell_of_row _ _ 1 _ _ _ HSC22.out
    have c2 : w22.cell? ⟨gc, 2, none⟩ = some (.int .i64 selCC.2.2.1) := cell_of_row _ _ 2 _ _ _ HSC22.out
    have c3 : w22.cell? ⟨gc, 3, none⟩ = some (.int .i64 selCC.2.2.2) := cell_of_row _ _ 3 _ _ _ HSC22.out
    have k0 : w22.cell? ⟨gk, 0, none⟩ = some (.string bB) := cell_of_row _ _ 0 _ _ _ HK22.out
    have k1 : w22.cell? ⟨gk, 1, none⟩ = some (.int .i64 0) := cell_of_row _ _ 1 _ _ _ HK22.out
    have k2 : w22.cell? ⟨gk, 2, none⟩ = some (.slice ca 3 cc) := cell_of_row _ _ 2 _ _ _ HK22.out
    have HL23 := Lib.hid (sels_lit3 selA selCC selB (World.alloc_heap_new w22 (.cells #[.string selA.1, .int .i64 selA.2.1, .int .i64 selA.2.2.1, .int .i64 selA.2.2.2, .string selCC.1, .int .i64 selCC.2.1, .int .i64 selCC.2.2.1, .int .i64 selCC.2.2.2, .string selB.1, .int .i64 selB.2.1, .int .i64 selB.2.2.1, .int .i64 selB.2.2.2] 43)))
    have HBQ := Lib.hid (belQ w22 (.cells #[.string selA.1, .int .i64 selA.2.1, .int .i64 selA.2.2.1, .int .i64 selA.2.2.2, .string selCC.1, .int .i64 selCC.2.1, .int .i64 selCC.2.2.1, .int .i64 selCC.2.2.2, .string selB.1, .int .i64 selB.2.1, .int .i64 selB.2.2.1, .int .i64 selB.2.2.2] 43))
    have HEQ := Lib.hid (eq_sels (.slice ca 3 cc) (.slice (some ⟨w22.heap.size, 0, none⟩) 3 3) [selA, selCC, selB] [selA, selCC, selB] _ (by decide) (by decide) (HC22.out.on HBQ.out) HL23.out)
    rw [decide_eq_true rfl] at HEQ
    go_wp2_with fail
    refine HEQ.out.mono ?_
    rintro e w23 ⟨rfl, hb23⟩
    have HBX := Lib.hid (HBQ.out.trans (hb23.mono HBQ.out.size))
    have HA23 := Lib.hid (HA22.out.below HBX.out)
    have HT23 := Lib.hid (HT22.out.on HBX.out)
    have HSA23 := Lib.hid (HSA22.out.on HBX.out)
    have HSB23 := Lib.hid (HSB22.out.on HBX.out)
    have HSC23 := Lib.hid (HSC22.out.on HBX.out)
    have HS23 := Lib.hid (HS22.out.on HBX.out)
    have HC23 := Lib.hid (HC22.out.on HBX.out)
    have HK23 := Lib.hid ((HBX.out.block gk (Array.getElem?_eq_some_iff.1 HK22.out).1).trans HK22.out)
    have HR23 := Lib.hid (HR22.out.on HBX.out)
    clear hb23 HEQ HL23 HBQ HBX HA22 HT22 HSA22 HSB22 HSC22 HS22 HC22 HK22 HR22 a0 a1 a2 a3 b0 b1 b2 b3 c0 c1 c2 c3 k0 k1 k2
    have x0 : w23.cell? ⟨gx, 0, none⟩ = some (.slice (some ⟨gr, 0, none⟩) 6 6) := cell_of_row _ _ 0 _ _ _ HA23.out.idx
    have x1 : w23.cell? ⟨gx, 1, none⟩ = some (.slice none 0 0) := cell_of_row _ _ 1 _ _ _ HA23.out.idx
    have k0 : w23.cell? ⟨gk, 0, none⟩ = some (.string bB) := cell_of_row _ _ 0 _ _ _ HK23.out
    have k1 : w23.cell? ⟨gk, 1, none⟩ = some (.int .i64 0) := cell_of_row _ _ 1 _ _ _ HK23.out
    have k2 : w23.cell? ⟨gk, 2, none⟩ = some (.slice ca 3 cc) := cell_of_row _ _ 2 _ _ _ HK23.out
    have HCK := Lib.hid (Check_any (.slice (some ⟨gr, 0, none⟩) 6 6) (.slice none 0 0) (.slice (some ⟨gt, 0, none⟩) 1 1) (.slice ca 3 cc) exX exT bB 0 [selA, selCC, selB] w23 (HM.out.below HA23.out.bel HM.out.pos) (by decide) ex_bd HA23.out.rel (by decide) ex_rbd HT23.out ⟨_, _, _, rfl, Nat.le_refl _⟩ (by decide) HC23.out)
    rw [ex_check] at HCK
    go_wp2_with fail
    refine HCK.out.mono ?_
    rintro e w24 ⟨rfl, hb24⟩
    have HA24 := Lib.hid (HA23.out.below hb24)
    have HT24 := Lib.hid (HT23.out.on hb24)
    have HSA24 := Lib.hid (HSA23.out.on hb24)
    have HSB24 := Lib.hid (HSB23.out.on hb24)
    have HSC24 := Lib.hid (HSC23.out.on hb24)
    have HS24 := Lib.hid (HS23.out.on hb24)
    have HC24 := Lib.hid (HC23.out.on hb24)
    have HK24 := Lib.hid ((hb24.block gk (Array.getElem?_eq_some_iff.1 HK23.out).1).trans HK23.out)
    have HR24 := Lib.hid (HR23.out.on hb24)
    clear hb24 HCK HA23 HT23 HSA23 HSB23 HSC23 HS23 HC23 HK23 HR23 x0 x1 k0 k1 k2
    have HSQ := Lib.hid (sameReqs_any (.slice qa 1 qc) (.slice (some ⟨gt, 0, none⟩) 1 1) exT exT w24 (by decide) (by decide) (fun q hq => (ex_rbd q hq).2) (fun q hq => (ex_rbd q hq).2) HR24.out HT24.out)
    rw [decide_eq_true rfl] at HSQ
    go_wp2_with fail
    refine HSQ.out.mono ?_
    rintro e w25 ⟨rfl, hb25⟩
    have HBF := Lib.hid (HA24.out.bel.trans (hb25.mono HA24.out.bel.size))
    clear hb25 HSQ
    go_wp2_with fail
    go_ret
    exact ⟨rfl, HBF.out⟩
end Go.Proofs.YtenfkejbndifdaaGreatDoor

namespace Go.Proofs.YtenfkejbndifdaaGreatDoor
set_option linter.unusedVariables false
set_option linter.unusedSimpArgs false
open Go Go.RowKit

structure LawB (w : World) (v iv : Value) (W : World) : Prop where
  bel : Below w.heap.size w W
  idx : W.heap[w.heap.size]? = some (.cells #[v, iv] 25 (0, 0))
theorem LawB.lt {w : World} {v iv : Value} {W : World} (h : LawB w v iv W) : w.heap.size < W.heap.size := (Array.getElem?_eq_some_iff.1 h.idx).1
theorem LawB.below {w : World} {v iv : Value} {W W' : World} (h : LawB w v iv W) (hb : Below W.heap.size W W') : LawB w v iv W' := ⟨h.bel.trans (hb.mono h.bel.size), (hb.block _ h.lt).trans h.idx⟩
theorem LawB.start (w : World) (v iv : Value) : LawB w v iv (w.alloc (.cells #[v, iv] 25)) := ⟨belQ _ _, World.alloc_heap_new w _⟩
theorem LawB.c0 {w : World} {v iv : Value} {W : World} (h : LawB w v iv W) : W.cell? ⟨w.heap.size, 0, none⟩ = some v := cell_of_row _ _ 0 _ _ _ h.idx
theorem LawB.c1 {w : World} {v iv : Value} {W : World} (h : LawB w v iv W) : W.cell? ⟨w.heap.size, 1, none⟩ = some iv := cell_of_row _ _ 1 _ _ _ h.idx
theorem FewR.bd {X : List RelL} {m : Nat} (h : FewR X m) : ∀ x ∈ X, RelBd x := fun x hx => by
  obtain ⟨h1, _, _, _, h5⟩ := h.all x hx
  exact ⟨by omega, by have := h5.len; omega, fun q hq => by have := h5.all q hq; omega⟩
theorem FewQ.bd {l : List ReqL} (h : FewQ l) : ReqsBd l := fun q hq => by have := h.all q hq; omega
def GeOk (a b : SelL) : Prop := ¬ b.2.2.1 < a.2.2.1 ∧ ¬ (b.2.2.1 = a.2.2.1 ∧ b.2.2.2 < a.2.2.2)
end Go.Proofs.YtenfkejbndifdaaGreatDoor

namespace Go.Proofs.YtenfkejbndifdaaGreatDoor
open Go Go.RowKit

end Go.Proofs.YtenfkejbndifdaaGreatDoor
