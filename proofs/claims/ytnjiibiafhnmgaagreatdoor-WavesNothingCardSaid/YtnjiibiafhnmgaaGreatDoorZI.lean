/- Contracts of package waves: the closures of needs. One operation of a region, by the laws for lists of operations. -/
import Derived.Test.YtnjiibiafhnmgaaGreatDoorZH
import Derived.Test.YtnjiibiafhnmgaaGreatDoorYO
import Derived.Test.YtnjiibiafhnmgaaGreatDoorYQ
import Derived.Test.YtnjiibiafhnmgaaGreatDoorYH
import Derived.Test.YtnjiibiafhnmgaaGreatDoorYF
namespace Go.Proofs.YtnjiibiafhnmgaaGreatDoor
open Go Go.RowKit Go.Maps

structure GoodS (X : List RelL) (s : List SelL) : Prop where
  chk : checkX X = 0
  inc : incrS s
  fnd : ∀ y ∈ s, (findR X y).isSome = true
  bd : ∀ x ∈ X, RelBd x
set_option maxRecDepth 100000 in
set_option maxHeartbeats 8000000 in
theorem clash1_any (X : List RelL) (s : List SelL) (hG : GoodS X s) (b : ByteArray) (q : ReqL) (r : Value) (m cb cm : Nat) (W : World) (hq : q.1.size ≤ 1000000) (hl : q.2.length ≤ 1000000000) (hS : SpansOf W.heap.size r q.2 W) (hm : SideAt X s m W)
    (hb : W.cell? ⟨cb, 0, none⟩ = some (.string b)) (hc : W.cell? ⟨cm, 0, none⟩ = some (.map (some m))) :
    Calls Tryz.prog 101 #[.agg #[.string q.1, r], .pointer (some ⟨cb, 0, none⟩), .pointer (some ⟨cm, 0, none⟩)] W fun e w' => e = .returned (.bool (decide (q.1 = b) && !metB s q)) ∧ Below W.heap.size W w' := by
  have hltb := World.block_lt_of_cell? _ _ hb
  have hltc := World.block_lt_of_cell? _ _ hc
  simp only at hltb hltc
  have hbq := belQ W (.cells #[.string q.1, r] 100)
  have HSA := Lib.hid (satisfies_any X s hG.chk hG.inc hG.fnd q r m (W.alloc (.cells #[.string q.1, r] 100)) hq hl ((hS.below hbq (Nat.le_refl _)).mono hbq.size) (hm.below hbq))
  have HN := Lib.hid (World.alloc_heap_new W (.cells #[.string q.1, r] 100))
  have HB := Lib.hid hbq
  obtain ⟨ra, rc, rfl⟩ : ∃ a c, r = .slice a q.2.length c := by obtain ⟨a, c, e, _⟩ := hS; exact ⟨a, c, e⟩
  have hc1 : (W.alloc (.cells #[.string q.1, .slice ra q.2.length rc] 100)).cell? ⟨cm, 0, none⟩ = some (.map (some m)) := (HB.out.cell (p := ⟨cm, 0, none⟩) hltc).trans hc
  have hb1 : (W.alloc (.cells #[.string q.1, .slice ra q.2.length rc] 100)).cell? ⟨cb, 0, none⟩ = some (.string b) := (HB.out.cell (p := ⟨cb, 0, none⟩) hltb).trans hb
  obtain ⟨mb, hmb⟩ : ∃ mb, metB s q = mb := ⟨_, rfl⟩
  rw [hmb] at HSA ⊢
  obtain ⟨eb, heb⟩ : ∃ eb, (q.1.toList == b.toList) = eb := ⟨_, rfl⟩
  rw [← eqs_dec, heb]
  clear hm hS hc hb hbq hmb hG
  go_enter Tryz.func101, Tryz.ntmps101
  go_upto_region 1 with fail
  generalize W.alloc (.cells #[.string q.1, .slice ra q.2.length rc] 100) = W1 at *
  have q0 : W1.cell? ⟨W.heap.size, 0, none⟩ = some (.string q.1) := cell_of_row _ _ 0 _ _ _ HN.out
  have q1 : W1.cell? ⟨W.heap.size, 1, none⟩ = some (.slice ra q.2.length rc) := cell_of_row _ _ 1 _ _ _ HN.out
  cases eb with
  | true =>
    go_wp2_with fail
    refine HSA.out.mono ?_
    rintro e w2 ⟨rfl, hb2⟩
    have HB2 := Lib.hid (HB.out.trans (hb2.mono HB.out.size))
    clear hb2
    go_wp2_with fail
    go_ret
    exact ⟨by simp, HB2.out⟩
  | false =>
    go_wp2_with fail
    go_ret
    exact ⟨by simp, HB.out⟩
theorem clash1_pred (X : List RelL) (s : List SelL) (hG : GoodS X s) (b : ByteArray) (es : List ReqL) (m cb cm : Nat) (w : World) (hq : ∀ q ∈ es, q.1.size ≤ 1000000 ∧ q.2.length ≤ 1000000) (hm : SideAt X s m w)
    (hb : w.cell? ⟨cb, 0, none⟩ = some (.string b)) (hc : w.cell? ⟨cm, 0, none⟩ = some (.map (some m))) :
    PredQ 101 #[.pointer (some ⟨cb, 0, none⟩), .pointer (some ⟨cm, 0, none⟩)] es (fun q => decide (q.1 = b) && !metB s q) w := by
  intro W x r hx hw hS
  have hltb := World.block_lt_of_cell? _ _ hb
  have hltc := World.block_lt_of_cell? _ _ hc
  simp only at hltb hltc
  refine (clash1_any X s hG b x r m cb cm W (hq x hx).1 (by have := (hq x hx).2; omega) hS (hm.below hw) ((hw.cell (p := ⟨cb, 0, none⟩) hltb).trans hb) ((hw.cell (p := ⟨cm, 0, none⟩) hltc).trans hc)).mono ?_
  rintro e w' ⟨rfl, h⟩
  exact ⟨rfl, hw.trans (h.mono hw.size)⟩
theorem side_look {X : List RelL} {s : List SelL} (hG : GoodS X s) {f : Lit → Option Value} {W : World} (hF : SelF (SideG X W) s f) (a : ByteArray) :
    ∃ s0 i1 i2 i3 ra rc l s1 s2 s3 y, (f (.string a.data.toList)).getD zeroR = .agg #[.string s0, intC i1, intC i2, intC i3, .slice ra l.length rc, .string s1, .string s2, .string s3, .bool y] ∧ ReqsOf W.heap.size (.slice ra l.length rc) l W ∧ reqsS X s a = l ∧ l.length ≤ 1000000 ∧ ∀ q ∈ l, q.1.size ≤ 1000000 ∧ q.2.length ≤ 1000000 := by
  rcases hF a with ⟨x, rx, h1, h2, ⟨h3, h4⟩, h5⟩ | ⟨h1, h2⟩
  · have hb := hG.bd x h3
    obtain ⟨xa, xc, rfl⟩ : ∃ a c, rx = .slice a x.reqs.length c := by obtain ⟨a, c, e, _⟩ := h4; exact ⟨a, c, e⟩
    have hat : atS s a = some (keyL x) := by rw [← h2]; exact atS_mem hG.inc h1
    refine ⟨x.path, x.ver.1, x.ver.2.1, x.ver.2.2, xa, xc, x.reqs, x.ar, x.ifc, x.cert, x.yk, by rw [h5]; rfl, h4, ?_, hb.len, hb.reqs⟩
    unfold reqsS
    rw [hat]
    exact reqsOf_at hG.chk h3
  · refine ⟨⟨#[]⟩, 0, 0, 0, none, 0, [], ⟨#[]⟩, ⟨#[]⟩, ⟨#[]⟩, false, by rw [h1]; rfl, ⟨none, 0, rfl, fun i x hx => by cases hx⟩, ?_, Nat.zero_le _, fun q hq => by cases hq⟩
    unfold reqsS
    rw [atS_none.2 h2]
theorem field_reqsW (s0 s1 s2 s3 : ByteArray) (i1 i2 i3 : Int) (r : Value) (y : Bool) (w : World) : (Instr.field 69 (.agg #[.string s0, intC i1, intC i2, intC i3, r, .string s1, .string s2, .string s3, .bool y]) 2).run Tryz.prog w = .ok r w := by
  have hu := Tryz.underlying69
  simp [Instr.field, run_underlying hu]
  go_simp
  simp [asAgg]
set_option maxRecDepth 100000 in
set_option maxHeartbeats 8000000 in
theorem clash_any (X : List RelL) (s o : List SelL) (hG : GoodS X s) (hO : GoodS X o) (a b : ByteArray) (ha : a.size ≤ maxLen) (m n : Nat) (W : World) (hm : SideAt X s m W) (hn : SideAt X o n W) :
    Calls Tryz.prog 100 #[.map (some m), .string a, .map (some n), .string b] W fun e w' => e = .returned (.bool (clashB X s a o b)) ∧ Below W.heap.size W w' := by
  obtain ⟨f, hmf, hF⟩ := hm
  obtain ⟨s0, i1, i2, i3, ra, rc, l, s1, s2, s3, y, hlk, hrq, hrs, hll, hlb⟩ := side_look hG hF a
  have HKY := Lib.hid (keyStr (p := a) ha)
  have HZR := Lib.hid (show ∀ W, (zeroValue 69).run Tryz.prog W = .ok zeroR W from Tryz.zeroValue69)
  have HLK := Lib.hid hlk
  have hq1 := belQ W (.cells #[.map (some n)] 89)
  have hq2 := belQ (W.alloc (.cells #[.map (some n)] 89)) (.cells #[.string b] 9)
  have hq := hq1.trans (hq2.mono hq1.size)
  have HB := Lib.hid hq
  have HMF := Lib.hid (hmf.below hq)
  have HN1 := Lib.hid ((hq2.cell (p := ⟨W.heap.size, 0, none⟩) (by simp)).trans (cell_of_row _ _ 0 _ _ _ (World.alloc_heap_new W (.cells #[.map (some n)] 89))))
  have HN2 := Lib.hid (cell_of_row _ _ 0 _ _ _ (World.alloc_heap_new (W.alloc (.cells #[.map (some n)] 89)) (.cells #[.string b] 9)))
  have HHC := Lib.hid (has_req 101 #[.pointer (some ⟨(W.alloc (.cells #[.map (some n)] 89)).heap.size, 0, none⟩), .pointer (some ⟨W.heap.size, 0, none⟩)] (enters_of Tryz.func101 (by kernel_rfl) rfl) _ (.slice ra l.length rc) l _ (by omega) (hrq.on hq) (clash1_pred X o hO b l n _ _ _ hlb (hn.below hq) HN2.out HN1.out))
  have HCV : Hid (clashB X s a o b = l.any fun q => decide (q.1 = b) && !metB o q) := Lib.hid (by unfold clashB; rw [hrs])
  rw [← HCV.out] at HHC
  generalize clashB X s a o b = bb at *
  rw [World.size_alloc] at HHC HN2
  clear hmf hF hlk hrq hrs hll hlb hq1 hq2 hq hn hG hO
  go_enter Tryz.func100, Tryz.ntmps100
  go_upto_region 1 with fail
  generalize hW1 : (W.alloc (.cells #[.map (some n)] 89)).alloc (.cells #[.string b] 9) = W1 at *
  clear hW1
  have hfr := field_reqsW s0 s1 s2 s3 i1 i2 i3 (.slice ra l.length rc) y W1
  go_wp2_with (at_lookup; refine wpList_look_F rfl _ _ 89 rfl 9 69 lawStr Tryz.underlying89 (HZR.out _) m s.length f (by rfl) HMF.out _ (.string a.data.toList) rfl HKY.out ?_; rw [HLK.out])
  refine HHC.out.mono ?_
  rintro e w2 ⟨rfl, hb2⟩
  have HB2 := Lib.hid (HB.out.trans (hb2.mono HB.out.size))
  clear hb2
  go_wp2_with fail
  go_ret
  exact ⟨rfl, HB2.out⟩
end Go.Proofs.YtnjiibiafhnmgaaGreatDoor

namespace Go.Proofs.YtnjiibiafhnmgaaGreatDoor
set_option linter.unusedVariables false
set_option linter.unusedSimpArgs false
open Go Go.RowKit

def OnlyN (K : Act → World → Prop) : Exit → Act → World → Prop
  | .normal, a, w => K a w
  | _, _, _ => False
def CapOk (v : Value) : Prop := ∃ a n c, v = .slice a n c ∧ n ≤ c
end Go.Proofs.YtnjiibiafhnmgaaGreatDoor
