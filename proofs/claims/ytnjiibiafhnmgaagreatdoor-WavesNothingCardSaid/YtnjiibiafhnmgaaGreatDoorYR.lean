/- Contracts of package waves: newSide. A range over a map that a call has made, whose elements are any values. Contract of the constraint's Has. -/
import Derived.Test.YtnjiibiafhnmgaaGreatDoorYM
import Derived.Test.YtnjiibiafhnmgaaGreatDoorYQ
import Derived.Test.YtnjiibiafhnmgaaGreatDoorYK
import Derived.Sort.KeysCollected
import Derived.Test.YtnjiibiafhnmgaaGreatDoorYE
import Derived.Test.YtnjiibiafhnmgaaGreatDoorYA
import Derived.Test.YtnjiibiafhnmgaaGreatDoorYB
import Derived.Test.YtnjiibiafhnmgaaGreatDoorYH
namespace Go.Proofs.YtnjiibiafhnmgaaGreatDoor
open Go Go.RowKit Go.Maps

structure IdxBx (w : World) (v iv : Value) (W : World) : Prop where
  bel : Below w.heap.size w W
  idx : W.heap[w.heap.size]? = some (.cells #[v, iv] 25 (0, 0))
section
variable {w : World} {v iv : Value} {W W' : World}
theorem IdxBx.lt (h : IdxBx w v iv W) : w.heap.size < W.heap.size := (Array.getElem?_eq_some_iff.1 h.idx).1
theorem IdxBx.below (h : IdxBx w v iv W) (hb : Below W.heap.size W W') : IdxBx w v iv W' := ⟨h.bel.trans (hb.mono h.bel.size), (hb.block _ h.lt).trans h.idx⟩
theorem IdxBx.c0 (h : IdxBx w v iv W) : W.cell? ⟨w.heap.size, 0, none⟩ = some v := cell_of_row _ _ 0 _ _ _ h.idx
theorem IdxBx.c1 (h : IdxBx w v iv W) : W.cell? ⟨w.heap.size, 1, none⟩ = some iv := cell_of_row _ _ 1 _ _ _ h.idx
theorem IdxBx.grown {row : Option Nat} (h : IdxBx w v iv W) (hg : W.grownBy W' row) (hr : ∀ b, row = some b → w.heap.size < b) : IdxBx w v iv W' :=
  ⟨h.bel.grown hg h.bel.size (fun b hb => Nat.le_of_lt (hr b hb)), (hg.block _ h.lt (fun e => by have := hr _ e.symm; omega)).trans h.idx⟩
end
theorem IdxBx.start (w : World) (v iv : Value) : IdxBx w v iv (w.alloc (.cells #[v, iv] 25)) := ⟨belQ _ _, World.alloc_heap_new w _⟩
theorem map_noCell {P : Program} {k : TypeId} {W : World} {b n : Nat} {f : Lit → Option Value} (h : MapF P k W b n f) (j : Nat) (v : Value) : W.cell? ⟨b, j, none⟩ ≠ some v := fun e => by
  obtain ⟨D, ⟨es, clock, h1, _⟩, _⟩ := h
  unfold World.cell? at e
  simp [h1] at e
theorem spans_nomp {B mb : Nat} {r : Value} {s : List (Int × Int)} {W W' : World} (h : SpansOf B r s W) (hB : B ≤ W.heap.size) (hg : W.grownBy W' (some mb)) (hn : ∀ o v, W.cell? ⟨mb, o, none⟩ ≠ some v) : SpansOf B r s W' := by
  obtain ⟨ao, cap, rfl, h⟩ := h
  refine ⟨ao, cap, rfl, fun i x hx => ?_⟩
  obtain ⟨b, off, rfl, hlt, h1, h2⟩ := h i x hx
  have hne : some b ≠ some mb := fun e => by injection e with e; subst e; exact hn _ _ h1
  exact ⟨b, off, rfl, hlt, (hg.cell_far ⟨b, off + i * 2, none⟩ (Nat.lt_of_lt_of_le hlt hB) hne).trans h1, (hg.cell_far ⟨b, off + i * 2 + 1, none⟩ (Nat.lt_of_lt_of_le hlt hB) hne).trans h2⟩
theorem reqs_nomap {B mb : Nat} {r : Value} {l : List ReqL} {W W' : World} (h : ReqsOf B r l W) (hB : B ≤ W.heap.size) (hg : W.grownBy W' (some mb)) (hn : ∀ o v, W.cell? ⟨mb, o, none⟩ ≠ some v) : ReqsOf B r l W' := by
  obtain ⟨ao, cap, rfl, h⟩ := h
  refine ⟨ao, cap, rfl, fun i q hq => ?_⟩
  obtain ⟨b, off, rv, rfl, hlt, h1, h2, h3⟩ := h i q hq
  have hne : some b ≠ some mb := fun e => by injection e with e; subst e; exact hn _ _ h1
  exact ⟨b, off, rv, rfl, hlt, (hg.cell_far ⟨b, off + i * 2, none⟩ (Nat.lt_of_lt_of_le hlt hB) hne).trans h1, (hg.cell_far ⟨b, off + i * 2 + 1, none⟩ (Nat.lt_of_lt_of_le hlt hB) hne).trans h2, spans_nomp h3 hB hg hn⟩
def SideG (X : List RelL) (W : World) : RelL → Value → Prop := fun x r => x ∈ X ∧ ReqsOf W.heap.size r x.reqs W
theorem SelF.imp {G G' : RelL → Value → Prop} {s : List SelL} {f : Lit → Option Value} (h : SelF G s f) (hi : ∀ x r, G x r → G' x r) : SelF G' s f := fun p => by
  rcases h p with ⟨x, r, h1, h2, h3, h4⟩ | h
  · exact .inl ⟨x, r, h1, h2, hi _ _ h3, h4⟩
  · exact .inr h
theorem SideG.on {X : List RelL} {W W' : World} (hb : Below W.heap.size W W') : ∀ x r, SideG X W x r → SideG X W' x r := fun _ _ h => ⟨h.1, h.2.on hb⟩
def SideAt (X : List RelL) (s : List SelL) (b : Nat) (W : World) : Prop := ∃ f, MapF Tryz.prog 9 W b s.length f ∧ SelF (SideG X W) s f
theorem SideAt.below {X : List RelL} {s : List SelL} {b : Nat} {W W' : World} (h : SideAt X s b W) (hb : Below W.heap.size W W') : SideAt X s b W' := by
  obtain ⟨f, h1, h2⟩ := h
  exact ⟨f, h1.below hb, h2.imp (SideG.on hb)⟩
open Classical in
noncomputable def newV (X : List RelL) (s : List SelL) : Int := if checkX X ≠ 0 ∨ ¬ incrS s then 1 else if ∃ y ∈ s, findR X y = none then 6 else 0
theorem newV_arg {X : List RelL} {s : List SelL} (h : checkX X ≠ 0 ∨ ¬ incrS s) : newV X s = 1 := by unfold newV; rw [if_pos h]
theorem newV_not {X : List RelL} {s : List SelL} (h1 : checkX X = 0) (h2 : incrS s) (h : ∃ y ∈ s, findR X y = none) : newV X s = 6 := by unfold newV; rw [if_neg (fun g => g.elim (fun a => a h1) (fun a => a h2)), if_pos h]
theorem newV_ok {X : List RelL} {s : List SelL} (h1 : checkX X = 0) (h2 : incrS s) (h : ∀ y ∈ s, (findR X y).isSome = true) : newV X s = 0 := by
  unfold newV
  rw [if_neg (fun g => g.elim (fun a => a h1) (fun a => a h2)), if_neg (fun ⟨y, hy, e⟩ => by have := h y hy; rw [e] at this; cases this)]
def NewR (X : List RelL) (s : List SelL) (w : World) (e : Ending) (w' : World) : Prop := Below w.heap.size w w' ∧ ∃ m : Option Nat, e = .returned (.tuple #[.map m, .int .i64 (newV X s)]) ∧ (newV X s = 0 → ∃ b, m = some b ∧ w.heap.size < b ∧ SideAt X s b w' ∧ checkX X = 0 ∧ incrS s ∧ ∀ y ∈ s, (findR X y).isSome = true)
theorem NewR.no {X : List RelL} {s : List SelL} {w w' : World} {E : Int} (hb : Below w.heap.size w w') (h : newV X s = E) (h0 : E ≠ 0) : NewR X s w (.returned (.tuple #[.map none, .int .i64 E])) w' := ⟨hb, none, by rw [h], fun e => absurd (h.symm.trans e) h0⟩
theorem find_path {X : List RelL} (hq : ∀ x ∈ X, RelBd x) {y : SelL} {x : RelL} (h : findR X y = some x) : x.path.size ≤ maxLen ∧ keyL x = y ∧ x ∈ X := by
  have hm : x ∈ X := List.mem_of_find?_eq_some h
  have hk : keyL x = y := by have := List.find?_some h; simpa using this
  have := (hq x hm).path
  exact ⟨by unfold maxLen; omega, hk, hm⟩
theorem wrap_pre2 {k n : Nat} (h1 : 1 ≤ k) (h : k < n) (h2 : n ≤ 1000000) : wrap64 ((k : Int) - 1) = ((k - 1 : Nat) : Int) := by unfold wrap64; omega
set_option maxRecDepth 100000 in
set_option maxHeartbeats 16000000 in
theorem newSide_any (v iv sv : Value) (X : List RelL) (s : List SelL) (w : World) (hm : MaxOk w) (hX : X.length ≤ 1000000) (hq : ∀ x ∈ X, RelBd x) (hR : RelsOf w.heap.size v X w)
    (hs : s.length ≤ 1000000) (hy : ∀ y ∈ s, SelBd y) (hS : SelsOf w.heap.size sv s w) :
    Calls Tryz.prog 84 #[.agg #[v, iv], sv] w (NewR X s w) := by
  have HCK := Lib.hid (fun W (hb : RowKit.Below w.heap.size w W) => IdxCheck_any v iv X W (hm.below hb hm.pos) hX hq (hR.on hb))
  have HFI := Lib.hid (fun W y (hy : SelBd y) (hb : RowKit.Below w.heap.size w W) => Find_any v iv X y W (hm.below hb hm.pos) hX hq (hR.on hb) hy)
  have HS := Lib.hid hS
  have HQB := Lib.hid hq
  have HYB := Lib.hid hy
  obtain ⟨va, vn, vc, rfl⟩ : ∃ a n c, v = .slice a n c := by obtain ⟨a, c, _, e, _⟩ := hR.rv; exact ⟨_, _, _, e⟩
  obtain ⟨sa, sc, rfl⟩ : ∃ sa sc, sv = .slice sa s.length sc := by obtain ⟨a, c, e, _⟩ := hS; exact ⟨a, c, e⟩
  clear hm hq hR hS hy
  have HB0 := Lib.hid (IdxBx.start w (.slice va vn vc) iv)
  have hmm := @run_makeMap Tryz.prog
  go_enter Tryz.func84, Tryz.ntmps84
  go_upto_region 1 with fail
  generalize w.alloc (.cells #[.slice va vn vc, iv] 25) = W at *
  have c0 := HB0.out.c0
  have c1 := HB0.out.c1
  go_wp2_with fail
  refine (HCK.out _ HB0.out.bel).mono ?_
  rintro e w1 ⟨rfl, hb1⟩
  have HB1 := Lib.hid (HB0.out.below hb1)
  obtain ⟨E, hE⟩ : ∃ E, checkX X = E := ⟨_, rfl⟩
  rw [hE]
  have HEE := Lib.hid hE
  clear hb1 c0 c1 HCK hE
  by_cases hE0 : E = 0
  case neg =>
    have hE1 : (E != 0) = true := by simpa using hE0
    have HV := Lib.hid (newV_arg (X := X) (s := s) (.inl (fun h => hE0 (HEE.out.symm.trans h))))
    go_wp2_with fail
    go_ret2
    exact NewR.no HB1.out.bel HV.out (by decide)
  subst hE0
  go_wp2_with fail
  go_loopw [6] (fun p wr => Hid (∃ k : Nat, 1 ≤ k ∧ (k ≤ s.length ∨ k = 1) ∧ p = .int .i64 (k : Int) ∧ incrK s k ∧ IdxBx w (.slice va vn vc) iv wr)) (fun p _ => s.length + 1 - (intOf p).toNat)
  case atStart => exact Lib.hid ⟨1, Nat.le_refl _, .inr rfl, rfl, (fun j hj => by omega), HB1.out⟩
  case round =>
    obtain ⟨k, hk1, hkl, rfl, hik, hb⟩ := hrel.out
    have HIK := Lib.hid hik
    have HB := Lib.hid hb
    clear hrel hik hb HB1
    by_cases hlt : k < s.length
    case neg =>
      have HIN : Hid (incrS s) := Lib.hid (incrK_all.1 (fun j hj => HIK.out j (by omega)))
      have hd : ¬ (k : Int) < (s.length : Int) := fun h => hlt (Int.ofNat_lt.1 h)
      have hd2 : decide ((k : Int) < (s.length : Int)) = false := decide_eq_false hd
      clear HIK hkl hlt
      have HMK : Hid (MapF Tryz.prog 9 (wr.alloc (.map #[] 0)) wr.heap.size 0 (fun _ => none)) := Lib.hid (MapF.made Tryz.prog 9 wr)
      have HB2 := Lib.hid (HB.out.below (belQ wr (.map #[] 0)))
      have HMW : Hid (w.heap.size < wr.heap.size) := Lib.hid HB.out.lt
      obtain ⟨mb, hmb⟩ : ∃ mb, wr.heap.size = mb := ⟨_, rfl⟩
      rw [hmb] at HMK HMW
      go_wp2_with fail
      generalize wr.alloc (.map #[] 0) = W8 at *
      try simp only [hmb]
      clear hmb hmm HB
      go_loopw [36] (fun p wr => Hid (∃ k : Nat, k ≤ s.length ∧ p = .int .i64 (k : Int) ∧ (∃ f, MapF Tryz.prog 9 wr mb k f ∧ SelF (SideG X wr) (s.take k) f) ∧ IdxBx w (.slice va vn vc) iv wr ∧ ∀ y ∈ s.take k, (findR X y).isSome = true)) (fun p _ => s.length - (intOf p).toNat)
      case atStart => exact Lib.hid ⟨0, Nat.zero_le _, rfl, ⟨_, HMK.out, SelF.start _⟩, HB2.out, fun y hy => (by simp at hy)⟩
      case round =>
        obtain ⟨k, hk, rfl, ⟨f, hmf, hsf⟩, hb, hfd⟩ := hrel.out
        have HMF := Lib.hid hmf
        have HSF := Lib.hid hsf
        have HB := Lib.hid hb
        have HFD := Lib.hid hfd
        clear hrel hmf hsf hb hfd HMK HB2 hd hd2
        by_cases hlt : k < s.length
        case neg =>
          have hkk : k = s.length := Nat.le_antisymm hk (Nat.le_of_not_lt hlt)
          clear hk
          subst hkk
          have HFD2 : Hid (∀ y ∈ s, (findR X y).isSome = true) := Lib.hid (by have := HFD.out; rwa [List.take_length] at this)
          have HV := Lib.hid (newV_ok HEE.out HIN.out HFD2.out)
          have HSD : Hid (SideAt X s mb wr) := Lib.hid ⟨f, HMF.out, by have := HSF.out; rwa [List.take_length] at this⟩
          go_wp2_with fail
          go_ret2
          exact ⟨HB.out.bel, some mb, by rw [HV.out]; rfl, fun _ => ⟨mb, rfl, HMW.out, HSD.out, HEE.out, HIN.out, HFD2.out⟩⟩
        case pos =>
          have hk0 : (0 : Int) ≤ (k : Int) := Int.natCast_nonneg k
          have hkz : (k : Int) < (s.length : Int) := Int.ofNat_lt.2 hlt
          obtain ⟨b, off, rfl, hbl, d0, d1, d2, d3⟩ := HS.out.at hlt
          have hyk : s.getD k default = s[k] := by rw [List.getD_eq_getElem?_getD, List.getElem?_eq_getElem hlt]; rfl
          have HTK : Hid (s.take (k + 1) = s.take k ++ [s.getD k default]) := Lib.hid (by rw [List.take_succ_eq_append_getElem hlt, hyk])
          have HYM : Hid (s.getD k default ∈ s) := Lib.hid (by rw [hyk]; exact List.getElem_mem hlt)
          have HYK := Lib.hid (HYB.out _ HYM.out)
          have d0 := (HB.out.bel.cell (p := ⟨b, off + k * 4, none⟩) hbl).trans d0
          have d1 := (HB.out.bel.cell (p := ⟨b, off + k * 4 + 1, none⟩) hbl).trans d1
          have d2 := (HB.out.bel.cell (p := ⟨b, off + k * 4 + 2, none⟩) hbl).trans d2
          have d3 := (HB.out.bel.cell (p := ⟨b, off + k * 4 + 3, none⟩) hbl).trans d3
          clear hyk
          generalize hyd : s.getD k default = y at *
          have HYD := Lib.hid hyd
          clear hyd
          have hbw : b < wr.heap.size := Nat.lt_of_lt_of_le hbl HB.out.bel.size
          have HNY := Lib.hid (World.alloc_heap_new wr (.cells #[.string y.1, intC y.2.1, intC y.2.2.1, intC y.2.2.2] 53))
          have hbq := belQ wr (.cells #[.string y.1, intC y.2.1, intC y.2.2.1, intC y.2.2.2] 53)
          have HB11 := Lib.hid (HB.out.below hbq)
          have HM11 := Lib.hid (HMF.out.below hbq)
          have HSF11 := Lib.hid (HSF.out.imp (SideG.on hbq))
          clear hbq
          go_upto_region 12 with fail
          generalize wr.alloc (.cells #[.string y.1, intC y.2.1, intC y.2.2.1, intC y.2.2.2] 53) = W11 at *
          obtain ⟨gy, hgy⟩ : ∃ gy, wr.heap.size = gy := ⟨_, rfl⟩
          rw [hgy] at HNY hbw
          simp only [hgy]
          clear d0 d1 d2 d3 hgy HB HMF HSF
          have hgyl : gy < W11.heap.size := (Array.getElem?_eq_some_iff.1 HNY.out).1
          have y0 : W11.cell? ⟨gy, 0, none⟩ = some (.string y.1) := cell_of_row _ _ 0 _ _ _ HNY.out
          have y1 : W11.cell? ⟨gy, 1, none⟩ = some (intC y.2.1) := cell_of_row _ _ 1 _ _ _ HNY.out
          have y2 : W11.cell? ⟨gy, 2, none⟩ = some (intC y.2.2.1) := cell_of_row _ _ 2 _ _ _ HNY.out
          have y3 : W11.cell? ⟨gy, 3, none⟩ = some (intC y.2.2.2) := cell_of_row _ _ 3 _ _ _ HNY.out
          have c0 := HB11.out.c0
          have c1 := HB11.out.c1
          go_wp2_with fail
          refine (HFI.out _ y HYK.out HB11.out.bel).mono ?_
          rintro e w12 ⟨r', rfl, hrr, hb12⟩
          obtain ⟨o, ho⟩ : ∃ o, findX X y = o := ⟨_, rfl⟩
          have HFX : Hid (findR X y = o) := Lib.hid (by rw [← ho]; unfold findX; rw [if_pos HEE.out])
          rw [ho] at hrr ⊢
          clear ho
          have HRR := Lib.hid hrr
          have HB12 := Lib.hid (HB11.out.below hb12)
          have HM12 := Lib.hid (HM11.out.below hb12)
          have HSF12 := Lib.hid (HSF11.out.imp (SideG.on hb12))
          have HNY12 := Lib.hid ((hb12.block gy hgyl).trans HNY.out)
          have hgy12 : gy < w12.heap.size := Nat.lt_of_lt_of_le hgyl hb12.size
          clear hrr hb12 y0 y1 y2 y3 c0 c1 HB11 HM11 HSF11 HNY hgyl
          cases o with
          | none =>
            have HV := Lib.hid (newV_not HEE.out HIN.out ⟨y, HYM.out, HFX.out⟩)
            simp only [Option.getD_none, Option.isSome_none] at HRR ⊢
            generalize (default : RelL) = x0 at *
            obtain ⟨xa, xc, hr⟩ : ∃ a c, r' = .slice a x0.reqs.length c := by obtain ⟨a, c, e, _⟩ := HRR.out.now; exact ⟨a, c, e⟩
            subst hr
            have HBE := Lib.hid (HB12.out.below (belQ w12 (.cells (relC x0 (.slice xa x0.reqs.length xc)) 69)))
            simp only [relC] at HBE ⊢
            go_wp2_with fail
            go_ret2
            exact NewR.no HBE.out.bel HV.out (by decide)
          | some x =>
            have HFP := Lib.hid (find_path HQB.out HFX.out)
            have hbq := belQ w12 (.cells (relC x r') 69)
            have HB13 := Lib.hid (HB12.out.below hbq)
            have HM13 := Lib.hid (HM12.out.below hbq)
            have HSF13 := Lib.hid (HSF12.out.imp (SideG.on hbq))
            have HRR13 := Lib.hid (HRR.out.below hbq).now
            have HNY13 := Lib.hid ((hbq.block gy hgy12).trans HNY12.out)
            have HXB := Lib.hid (BoxR.made w12 x r')
            clear hbq HB12 HM12 HSF12 HNY12 HRR
            obtain ⟨xa, xc, hr⟩ : ∃ a c, r' = .slice a x.reqs.length c := by obtain ⟨a, c, e, _⟩ := HRR13.out; exact ⟨a, c, e⟩
            subst hr
            simp only [Option.getD_some, Option.isSome_some] at HRR13 ⊢
            simp only [relC] at HB13 HM13 HSF13 HRR13 HNY13 HXB ⊢
            go_upto_region 15 with fail
            generalize w12.alloc (.cells #[.string x.path, intC x.ver.1, intC x.ver.2.1, intC x.ver.2.2, .slice xa x.reqs.length xc, .string x.ar, .string x.ifc, .string x.cert, .bool x.yk] 69) = W13 at *
            obtain ⟨gx, hgx⟩ : ∃ gx, w12.heap.size = gx := ⟨_, rfl⟩
            rw [hgx] at HXB
            simp only [hgx]
            clear hgx
            have y0 : W13.cell? ⟨gy, 0, none⟩ = some (.string y.1) := cell_of_row _ _ 0 _ _ _ HNY13.out
            have hyx : y.1 = x.path := by rw [← HFP.out.2.1]; rfl
            rw [hyx] at y0
            clear hyx
            obtain ⟨x0, x1, x2, x3, x4, x5, x6, x7, x8⟩ := HXB.out.cells
            have hps := HFP.out.1
            have HGX : Hid (SideG X W13 x (.slice xa x.reqs.length xc)) := Lib.hid ⟨HFP.out.2.2, HRR13.out⟩
            have HPUT : Hid (∀ W', MapF Tryz.prog 9 W' mb (k + 1) (putF f (.string x.path.data.toList) (.agg (relC x (.slice xa x.reqs.length xc)))) → W13.grownBy W' (some mb) → (∃ f, MapF Tryz.prog 9 W' mb (k + 1) f ∧ SelF (SideG X W') (s.take (k + 1)) f) ∧ IdxBx w (.slice va vn vc) iv W') := Lib.hid (fun W' h11 g11 => by
              have hk : ∀ x r, SideG X W13 x r → SideG X W' x r := fun x2 r2 h => ⟨h.1, (reqs_nomap h.2 (Nat.le_refl _) g11 (fun o v => map_noCell HM13.out o v)).mono g11.size⟩
              exact ⟨⟨_, h11, (HSF13.out.put hlt (HFP.out.2.1.trans HYD.out.symm) HGX.out).imp hk⟩, HB13.out.grown g11 (fun b hb => by cases hb; exact HMW.out)⟩)
            simp only [relC] at HPUT
            have HFD2 : Hid (∀ y ∈ s.take (k + 1), (findR X y).isSome = true) := Lib.hid (fun z hz => by
              rw [HTK.out] at hz
              rcases List.mem_append.1 hz with h | h
              · exact HFD.out z h
              · rw [List.mem_singleton.1 h, HFX.out]; rfl)
            clear HSF13 HB13 HGX HRR13 HFX HYM HYK HTK HFD
            go_wp2_with (refine wpList_put_F rfl _ _ _ _ rfl 9 69 lawStr Tryz.underlying89 mb k f (by rfl) HM13.out (by unfold maxLen; omega) _ _ (.string x.path.data.toList) rfl rfl (keyStr hps) ?_; intro W' h11 g11; have HJ := Lib.hid (HPUT.out W' h11 g11); clear h11 g11)
            all_goals
              refine ⟨Lib.hid ⟨k + 1, hlt, by go_num, HJ.out.1, HJ.out.2, HFD2.out⟩, ?_⟩
              simp [intOf]; omega
    case pos =>
      have hkm : k - 1 < s.length := by omega
      obtain ⟨b, off, rfl, hbl, d0, _⟩ := HS.out.at hkm
      obtain ⟨b', off', e2, _, f0, _⟩ := HS.out.at hlt
      cases e2
      have HST : Hid (ltB (s.getD (k - 1) default).1 (s.getD k default).1 = true → incrK s (k + 1)) := Lib.hid (fun h => incrK_step HIK.out (fun _ => h))
      have HNO : Hid (¬ ltB (s.getD (k - 1) default).1 (s.getD k default).1 = true → ¬ incrS s) := Lib.hid (fun h hi => by
        have hp := List.pairwise_iff_getElem.1 hi (k - 1) k hkm hlt (by omega)
        rw [List.getD_eq_getElem?_getD, List.getD_eq_getElem?_getD, List.getElem?_eq_getElem hkm, List.getElem?_eq_getElem hlt] at h
        exact h hp)
      have d0 := (HB.out.bel.cell (p := ⟨b, off + (k - 1) * 4, none⟩) hbl).trans d0
      have f0 := (HB.out.bel.cell (p := ⟨b, off + k * 4, none⟩) hbl).trans f0
      generalize (s.getD (k - 1) default).1 = pa at *
      generalize (s.getD k default).1 = pb at *
      have hsub : wrap64 ((k : Int) - 1) = ((k - 1 : Nat) : Int) := wrap_pre2 hk1 hlt hs
      have hsub2 : IntKind.i64.wrap ((k : Int) - 1) = ((k - 1 : Nat) : Int) := by rw [IntWalk.i64_in _ (by omega)]; omega
      have hi0 : (0 : Int) ≤ ((k - 1 : Nat) : Int) := Int.natCast_nonneg _
      have hi1 : ((k - 1 : Nat) : Int) < (s.length : Int) := Int.ofNat_lt.2 hkm
      have hi2 : (0 : Int) ≤ (k : Int) := Int.natCast_nonneg _
      have hi3 : (k : Int) < (s.length : Int) := Int.ofNat_lt.2 hlt
      clear HIK
      by_cases hc : ltB pa pb = true
      case pos =>
        have hc2 : Op.bytesLess pa.toList pb.toList = true := hc
        have HI2 := Lib.hid (HST.out hc)
        clear hc HST HNO
        go_wp2_with fail
        go_quiet (fail)
        go_wp2_with fail
        all_goals
          refine ⟨Lib.hid ⟨k + 1, by omega, .inl hlt, by go_num, HI2.out, HB.out.below (below_drewN (Below.refl _ _) _)⟩, ?_⟩
          simp [intOf]; omega
      case neg =>
        have hc1 : ltB pa pb = false := by simpa using hc
        have hc2 : Op.bytesLess pa.toList pb.toList = false := hc1
        have HV := Lib.hid (newV_arg (X := X) (s := s) (.inr (HNO.out hc)))
        clear hc hc1 HST HNO
        go_wp2_with fail
        go_quiet (fail)
        go_wp2_with fail
        go_ret2
        exact NewR.no (below_drewN HB.out.bel _) HV.out (by decide)
end Go.Proofs.YtnjiibiafhnmgaaGreatDoor

namespace Go.Proofs.YtnjiibiafhnmgaaGreatDoor
set_option linter.unusedVariables false
set_option linter.unusedSimpArgs false
open Go Go.RowKit Go.Maps

def RangesF (P : Program) (k : TypeId) (W : World) (b r n : Nat) (f : Lit → Option Value) (left : Lit → Bool) (cnt : Nat) : Prop :=
  ∃ D : DataW Value, W.ranges P k RV b r n D left cnt ∧ Tidy D ∧ (∀ q, Maps.has D q = (f q).isSome) ∧ ∀ q z, D.atKey q z = match f q with | some v => .held v | none => z
variable {P : Program} {k : TypeId} {W : World} {b r n cnt : Nat} {f : Lit → Option Value} {left : Lit → Bool}
theorem RangesF.kept {W' : World} {row : Option Nat} (h : RangesF P k W b r n f left cnt) (hg : W.grownBy W' row) (h1 : some b ≠ row) (h2 : some r ≠ row) : RangesF P k W' b r n f left cnt := by
  obtain ⟨D, h3, h4⟩ := h
  exact ⟨D, h3.kept hg h1 h2, h4⟩
theorem RangesF.lt (h : RangesF P k W b r n f left cnt) : r < W.heap.size := by
  obtain ⟨D, ⟨es, clock, since, seen, c0, _, _, _, _, hr, _⟩, _⟩ := h
  exact (Array.getElem?_eq_some_iff.1 hr).1
theorem RangesF.alloc (h : RangesF P k W b r n f left cnt) (o : Obj) : RangesF P k (W.alloc o) b r n f left cnt := by
  obtain ⟨D, h3, h4⟩ := h
  exact ⟨D, h3.alloc o, h4⟩
theorem RangesF.left_eq (h : RangesF P k W b r n f left cnt) : W.rangeLeft b r = cnt := by
  obtain ⟨D, h3, h4⟩ := h
  exact h3.left_eq
theorem wpList_range_F {ops : Array Oper} {rest : List Oper} {o : Oper} {a : Act} {Q : Exit → Act → World → Prop}
    (hg : o.guard = none) (m : Operand) (t : TypeId) (hop : o.op = Op.range t m) (e : TypeId) (K : Keyed P k) (ht : P.underlying t = some (.map k e))
    (hm : a.eval m = .map (some b)) (hown : MapF P k W b n f)
    (hK : ∀ w' cnt, RangesF P k w' b W.heap.size n f (fun q => (f q).isSome) cnt → W.grownBy w' none → w'.heap.size = W.heap.size + 1 → wpList P ops Q rest (a.put o.dst (.pointer (some ⟨W.heap.size, 0, none⟩))) w') :
    wpList P ops Q (o :: rest) a W := by
  obtain ⟨D, h1, h2, h3, h4⟩ := hown
  refine wpList_range_own W hg m t hop k e K ht RV b n D hm h1 fun w' g1 g2 g3 => hK w' (Maps.size D) ⟨D, ?_, h2, h3, h4⟩ g2 g3
  have : Maps.has D = fun q => (f q).isSome := funext h3
  rwa [this] at g1
theorem wpList_next_F {α : Type} {ops : Array Oper} {rest : List Oper} {o : Oper} {a : Act} {Q : Exit → Act → World → Prop}
    (hg : o.guard = none) (it : Operand) (hop : o.op = Op.next it false) (K : Keyed P k) (mkK : α → Value) (invK : ∀ key kl, keyOf P k key = some kl → ∃ x, key = mkK x)
    (hit : a.eval it = .pointer (some ⟨r, 0, none⟩)) (h : RangesF P k W b r n f left cnt)
    (hDone : (∀ kl, left kl = false) → wpList P ops Q rest (a.put o.dst (.tuple #[.bool false])) W)
    (hMore : ∀ (x : α) (v : Value) (kl : Lit) (w' : World) (cnt' : Nat), keyOf P k (mkK x) = some kl → left kl = true → f kl = some v → RangesF P k w' b r n f (fun z => left z && !z.sameKey kl) cnt' → cnt' < cnt →
      W.grownBy w' (some r) → w'.heap.size = W.heap.size → (Instr.entry (.pointer (some ⟨r, 0, none⟩))).run P w' = .ok (.tuple #[mkK x, v]) w' → wpList P ops Q rest (a.put o.dst (.tuple #[.bool true, mkK x, v])) w') :
    wpList P ops Q (o :: rest) a W := by
  obtain ⟨D, h1, h2, h3, h4⟩ := h
  refine wpList_next_ranges W hg it hop k K RV mkK (fun v : Value => v) invK (fun v y _ => ⟨v, rfl⟩) b r n D left cnt hit h1 (fun _ hl => hDone hl) fun x c kl y w' cnt' hkey hlk hv hat hrg hlt hgr hsz hen => ?_
  have hf : f kl = some c := by
    have h5 := hat (.lit (.bool false))
    have h6 := hat (.lit (.bool true))
    rw [h4] at h5 h6
    cases hfk : f kl with
    | none =>
      rw [hfk] at h5 h6
      rw [← h6] at h5
      injection h5 with h5
      injection h5 with h5
      cases h5
    | some u =>
      rw [hfk] at h5
      unfold RV at hv
      injection hv with hv
      rw [← hv] at h5
      injection h5 with h5
      rw [h5]
  exact hMore x c kl w' cnt' hkey hlk hf ⟨D, hrg, h2, h3, h4⟩ hlt hgr hsz hen
end Go.Proofs.YtnjiibiafhnmgaaGreatDoor

namespace Go.Proofs.YtnjiibiafhnmgaaGreatDoor
set_option linter.unusedVariables false
set_option linter.unusedSimpArgs false
open Go Go.RowKit

def inB (p : Int) (x : Int × Int) : Bool := decide (x.1 ≤ p) && decide (p < x.2)
theorem hasB_eq (s : List (Int × Int)) (p : Int) : hasB s p = ((decide (0 ≤ p) && decide (p < 1000000)) && s.any (inB p)) := rfl
set_option maxRecDepth 100000 in
theorem inCl_any (pb : Nat) (p a b : Int) (W : World) (hc : W.cell? ⟨pb, 0, none⟩ = some (intC p)) :
    Calls Tryz.prog 159 #[.agg #[intC a, intC b], .pointer (some ⟨pb, 0, none⟩)] W fun e w' => e = .returned (.bool (inB p (a, b))) ∧ Below W.heap.size W w' := by
  have hlt : pb < W.heap.size := World.block_lt_of_cell? _ _ hc
  have hne : pb ≠ W.heap.size := by omega
  by_cases h1 : a ≤ p
  · by_cases h2 : p < b
    · have HE : Hid (inB p (a, b) = true) := Lib.hid (by simp [inB, h1, h2])
      rw [HE.out]
      go_enter Tryz.func159, Tryz.ntmps159
      go_wp2
      go_ret
      exact ⟨rfl, (by repeat (first | exact Below.refl _ _ | refine Below.drew ?_ | refine Below.alloc ?_ (by simp <;> omega) _ | refine Below.setCell ?_ (by simp <;> omega) _))⟩
    · have HE : Hid (inB p (a, b) = false) := Lib.hid (by simp [inB, h1, h2])
      rw [HE.out]
      go_enter Tryz.func159, Tryz.ntmps159
      go_wp2
      go_ret
      exact ⟨rfl, (by repeat (first | exact Below.refl _ _ | refine Below.drew ?_ | refine Below.alloc ?_ (by simp <;> omega) _ | refine Below.setCell ?_ (by simp <;> omega) _))⟩
  · have HE : Hid (inB p (a, b) = false) := Lib.hid (by simp [inB, h1])
    rw [HE.out]
    go_enter Tryz.func159, Tryz.ntmps159
    go_wp2
    go_ret
    exact ⟨rfl, (by repeat (first | exact Below.refl _ _ | refine Below.drew ?_ | refine Below.alloc ?_ (by simp <;> omega) _ | refine Below.setCell ?_ (by simp <;> omega) _))⟩
set_option maxRecDepth 100000 in
theorem Has_any (v : Value) (s : List (Int × Int)) (p : Int) (w : World) (hs : s.length ≤ 1000000000) (hE : SpansOf w.heap.size v s w) :
    Calls Tryz.prog 119 #[v, .int .i64 p] w fun e w' => e = .returned (.bool (hasB s p)) ∧ Below w.heap.size w w' := by
  have hb0 : Below w.heap.size w (w.alloc (.cells #[intC p] 3)) := (Below.refl _ _).alloc (Nat.le_refl _) _
  have hcall := has_spanE 159 #[.pointer (some ⟨w.heap.size, 0, none⟩)] (enters_of Tryz.func159 (by kernel_rfl) rfl) (inB p) v s (w.alloc (.cells #[intC p] 3)) hs
    ((hE.below hb0 (Nat.le_refl _)).mono (by simp)) (fun W x _ hW => (inCl_any w.heap.size p x.1 x.2 W (by
      rw [hW.cell (p := ⟨w.heap.size, 0, none⟩) (by simp)]
      simp [go_sem])).mono fun e w' h => ⟨h.1, hW.trans (h.2.mono hW.size)⟩)
  by_cases h0 : 0 ≤ p
  · by_cases h1 : p < 1000000
    · have he : hasB s p = s.any (inB p) := by rw [hasB_eq]; simp [h0, h1]
      rw [he]
      generalize s.any (inB p) = q at *
      have HC := Lib.hid hcall
      clear hcall he
      obtain ⟨ao, ec, rfl, _⟩ := hE
      go_enter Tryz.func119, Tryz.ntmps119
      go_wp2_with ((with_reducible refine HC.out.mono ?_); rintro e w' ⟨rfl, hb⟩)
      go_ret
      exact ⟨rfl, hb0.trans (hb.mono (by simp))⟩
    · have he : hasB s p = false := by rw [hasB_eq]; simp [h1]
      rw [he]
      clear hcall he
      go_enter Tryz.func119, Tryz.ntmps119
      go_wp2
      go_ret
      exact ⟨rfl, hb0⟩
  · have he : hasB s p = false := by rw [hasB_eq]; simp [h0]
    rw [he]
    clear hcall he
    go_enter Tryz.func119, Tryz.ntmps119
    go_wp2
    go_ret
    exact ⟨rfl, hb0⟩
end Go.Proofs.YtnjiibiafhnmgaaGreatDoor

namespace Go.Proofs.YtnjiibiafhnmgaaGreatDoor
open Go Go.RowKit

end Go.Proofs.YtnjiibiafhnmgaaGreatDoor

namespace Go.Proofs.YtnjiibiafhnmgaaGreatDoor
set_option linter.unusedVariables false
set_option linter.unusedSimpArgs false
open Go Go.RowKit

def placeV (a b c : Int) : Int × Int := if validB a b c = true then (1000 * b + c, 0) else (0, 2)
def atV (m p : Int) : (Int × Int × Int) × Int := if partB m = true ∧ 0 ≤ p ∧ p < 1000000 then ((m, p / 1000, p % 1000), 0) else ((0, 0, 0), 2)
set_option maxRecDepth 100000 in
theorem Place_any (a b c : Int) (w : World) : Calls Tryz.prog 118 #[.agg #[.int .i64 a, .int .i64 b, .int .i64 c]] w fun e w' => e = .returned (.tuple #[.int .i64 (placeV a b c).1, .int .i64 (placeV a b c).2]) ∧ Below w.heap.size w w' := by
  by_cases hv : validB a b c = true
  · have HE := Lib.hid (show placeV a b c = (1000 * b + c, 0) by unfold placeV; rw [if_pos hv])
    rw [HE.out]
    obtain ⟨⟨a0, a1⟩, ⟨b0, b1⟩, c0, c1⟩ := valid_le hv
    go_enter Tryz.func118, Tryz.ntmps118
    go_wp2_with (go_at_call 157; refine (Valid_any _ _ _ _).mono ?_; rintro e w' ⟨rfl, rfl⟩)
    go_ret2
    exact ⟨rfl, (by repeat (first | exact Below.refl _ _ | refine Below.drew ?_ | refine Below.alloc ?_ (by simp <;> omega) _ | refine Below.setCell ?_ (by simp <;> omega) _))⟩
  · have hv : validB a b c = false := by simpa using hv
    have HE := Lib.hid (show placeV a b c = (0, 2) by unfold placeV; rw [hv]; rfl)
    rw [HE.out]
    go_enter Tryz.func118, Tryz.ntmps118
    go_wp2_with (go_at_call 157; refine (Valid_any _ _ _ _).mono ?_; rintro e w' ⟨rfl, rfl⟩)
    go_ret2
    exact ⟨rfl, (by repeat (first | exact Below.refl _ _ | refine Below.drew ?_ | refine Below.alloc ?_ (by simp <;> omega) _ | refine Below.setCell ?_ (by simp <;> omega) _))⟩
end Go.Proofs.YtnjiibiafhnmgaaGreatDoor
