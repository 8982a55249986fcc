/- Contracts of the reference's Increasing and Find. -/
import Derived.Test.YtbbnoloploklkaaGreatDoorQO
import Derived.Test.YtbbnoloploklkaaGreatDoorQK
namespace Go.Proofs.YtbbnoloploklkaaGreatDoor
set_option linter.unusedVariables false
set_option linter.unusedSimpArgs false
open Go Go.RowKit

set_option maxRecDepth 100000 in
set_option maxHeartbeats 4000000 in
theorem rIncr_any (sv : Value) (s : List SelL) (w : World) (hs : s.length ≤ 1000000) (hS : SelsOf w.heap.size sv s w) :
    Calls Tryz.prog 96 #[sv] w fun e w' => ∃ b : Bool, e = .returned (.bool b) ∧ (b = true ↔ incrS s) ∧ Below w.heap.size w w' := by
  obtain ⟨so, sc, rfl⟩ : ∃ so sc, sv = .slice so s.length sc := by obtain ⟨a, c, e, _⟩ := hS; exact ⟨a, c, e⟩
  have HS := Lib.hid hS
  clear hS
  go_enter Tryz.func96, Tryz.ntmps96
  go_wp2_with fail
  go_loopw [3] (fun p wr => Hid (∃ k : Nat, 1 ≤ k ∧ p = .int .i64 k ∧ ((k ≤ s.length ∨ k = 1) ∧ incrK s k) ∧ Below w.heap.size w wr)) (fun p _ => s.length + 1 - (intOf p).toNat)
  case atStart => exact Lib.hid ⟨1, by omega, rfl, ⟨.inr rfl, fun j hj => by omega⟩, Below.refl _ _⟩
  case round =>
    obtain ⟨k, hk1, rfl, hkk, hb⟩ := hrel.out
    have HK := Lib.hid hkk
    have HB := Lib.hid hb
    have hsl := hb.size
    clear hrel hkk hb
    by_cases hlt : k < s.length
    case neg =>
      have HIN := Lib.hid (show incrS s from incrK_all.1 (fun j hj => HK.out.2 j (by rcases HK.out.1 with h | h <;> omega)))
      go_wp2_with fail
      go_ret
      exact ⟨true, rfl, ⟨fun _ => HIN.out, fun _ => rfl⟩, HB.out⟩
    case pos =>
      obtain ⟨b, off, rfl, hbl, d0, _⟩ := HS.out.at hlt
      obtain ⟨b2, off2, e2, _, f0, _⟩ := HS.out.at (i := k - 1) (by omega)
      cases e2
      have d0 := (HB.out.cell (p := ⟨b, off + k * 4, none⟩) hbl).trans d0
      have f0 := (HB.out.cell (p := ⟨b, off + (k - 1) * 4, none⟩) hbl).trans f0
      have hsub : wrap64 ((k : Int) - 1) = ((k - 1 : Nat) : Int) := by rw [show ((k : Int) - 1) = ((k - 1 : Nat) : Int) by omega]; unfold wrap64; omega
      have hl0 : (0 : Int) ≤ ((k - 1 : Nat) : Int) := by omega
      have hl1 : ((k - 1 : Nat) : Int) < (s.length : Int) := by omega
      generalize hpa : (s.getD (k - 1) default).1 = pa at *
      generalize hpb : (s.getD k default).1 = pb at *
      have HPA := Lib.hid hpa
      have HPB := Lib.hid hpb
      clear hpa hpb
      go_wp2_with fail
      go_quiet (fail)
      have HBQ := Lib.hid (below_drewNV HB.out nq)
      generalize wr.drewN nq = wx at *
      clear d0 f0
      cases hc : ltB pa pb with
      | false =>
        have hc2 : Op.bytesLess pa.toList pb.toList = false := hc
        have hc3 := leq_lt pb pa
        rw [hc] at hc3
        have HN := Lib.hid (show ¬ incrS s from fun h => by
          have := incrK_all.2 h (k - 1) (by omega)
          rw [show k - 1 + 1 = k by omega, HPA.out, HPB.out, hc] at this
          cases this)
        first | rw [hc3] | rw [hc2]
        try simp only [Bool.not_false, Bool.not_true]
        clear hc hc2 hc3
        go_wp2_with fail
        go_ret
        exact ⟨false, rfl, ⟨fun h => (by cases h), fun h => absurd h HN.out⟩, HBQ.out⟩
      | true =>
        have hc2 : Op.bytesLess pa.toList pb.toList = true := hc
        have hc3 := leq_lt pb pa
        rw [hc] at hc3
        have HK2 := Lib.hid (show (k + 1 ≤ s.length ∨ k + 1 = 1) ∧ incrK s (k + 1) from ⟨.inl (by omega), incrK_step HK.out.2 (fun _ => by rw [HPA.out, HPB.out]; exact hc)⟩)
        first | rw [hc3] | rw [hc2]
        try simp only [Bool.not_false, Bool.not_true]
        clear hc hc2 hc3
        go_wp2_with fail
        all_goals
          refine ⟨Lib.hid ⟨k + 1, by omega, by go_num, HK2.out, HBQ.out⟩, ?_⟩
          simp [intOf]; omega
theorem ver_eql (a b c x y z : Int) (w : World) : (binOp .eql 41 (.agg #[.int .i64 a, .int .i64 b, .int .i64 c]) (.agg #[.int .i64 x, .int .i64 y, .int .i64 z])).run Tryz.prog w = .ok (.bool (a == x && (b == y && c == z))) w := by
  rw [run_eql_struct, show (10000 : Nat) = 9995 + 5 from rfl, ver_equal]
  rfl
def FindR2 (B0 : Nat) (w : World) (o : Option RelL) (e : Ending) (w' : World) : Prop := ∃ r', e = .returned (.tuple #[.agg (relC (o.getD default) r'), .bool o.isSome]) ∧ ReqsOf B0 r' (o.getD default).reqs w' ∧ Below w.heap.size w w'
set_option maxRecDepth 100000 in
set_option maxHeartbeats 8000000 in
theorem rFind32_any (v iv : Value) (X : List RelL) (y : SelL) (w : World) (B0 : Nat) (hB0 : B0 ≤ w.heap.size) (hX : X.length ≤ 1000000) (hq : ∀ x ∈ X, RelBd x) (hR0 : RelsOf B0 v X w) :
    Calls Tryz.prog 119 #[.agg #[v, iv], .string y.1, .agg #[intC y.2.1, intC y.2.2.1, intC y.2.2.2]] w (FindR2 B0 w (findX X y)) := by
  have hR := hR0.mono hB0
  obtain ⟨ao, cap, rv, rfl, hrv⟩ := hR0.rv
  have HC := Lib.hid (fun W (hb : Below w.heap.size w W) => rCheck32_any (.slice ao X.length cap) iv X W hX hq ((hR.below hb (Nat.le_refl _)).mono hb.size))
  have HR := Lib.hid hrv
  clear hR hR0 hq hrv
  obtain ⟨o, ho⟩ : ∃ o, findX X y = o := ⟨_, rfl⟩
  have HO := Lib.hid ho
  rw [ho]
  clear ho
  have hget : ∀ (w : World) (o : Obj) (k : Nat), (w.alloc o).heap[k]? = if k = w.heap.size then some o else w.heap[k]? := fun w o k => by
    show (w.heap.push o)[k]? = _
    rw [Array.getElem?_push]
  have HG : Hid ((((w.alloc (.cells #[.slice ao X.length cap, iv] 25)).alloc (.cells #[intC y.2.1, intC y.2.2.1, intC y.2.2.2] 41)).alloc (.cells #[.string ⟨#[]⟩, .int .i64 0, .int .i64 0, .int .i64 0, .slice none 0 0, .string ⟨#[]⟩, .string ⟨#[]⟩, .string ⟨#[]⟩, .bool false] 71)).heap[w.heap.size]? = some (.cells #[.slice ao X.length cap, iv] 25 (0, 0)) ∧
      (((w.alloc (.cells #[.slice ao X.length cap, iv] 25)).alloc (.cells #[intC y.2.1, intC y.2.2.1, intC y.2.2.2] 41)).alloc (.cells #[.string ⟨#[]⟩, .int .i64 0, .int .i64 0, .int .i64 0, .slice none 0 0, .string ⟨#[]⟩, .string ⟨#[]⟩, .string ⟨#[]⟩, .bool false] 71)).heap[w.heap.size + 1]? = some (.cells #[intC y.2.1, intC y.2.2.1, intC y.2.2.2] 41 (0, 0)) ∧
      BoxR (((w.alloc (.cells #[.slice ao X.length cap, iv] 25)).alloc (.cells #[intC y.2.1, intC y.2.2.1, intC y.2.2.2] 41)).alloc (.cells #[.string ⟨#[]⟩, .int .i64 0, .int .i64 0, .int .i64 0, .slice none 0 0, .string ⟨#[]⟩, .string ⟨#[]⟩, .string ⟨#[]⟩, .bool false] 71)) (w.heap.size + 1 + 1) default (.slice none 0 0)) := Lib.hid (by
    refine ⟨?_, ?_, ?_⟩
    · simp only [hget, World.size_alloc]; repeat (first | rw [if_pos trivial] | rw [if_neg (by omega)] | rw [if_pos (by omega)])
    · simp only [hget, World.size_alloc]; repeat (first | rw [if_pos trivial] | rw [if_neg (by omega)] | rw [if_pos (by omega)])
    · unfold BoxR
      simp only [hget, World.size_alloc]; repeat (first | rw [if_pos trivial] | rw [if_neg (by omega)] | rw [if_pos (by omega)])
      rfl)
  have HBW : Hid (Below w.heap.size w (((w.alloc (.cells #[.slice ao X.length cap, iv] 25)).alloc (.cells #[intC y.2.1, intC y.2.2.1, intC y.2.2.2] 41)).alloc (.cells #[.string ⟨#[]⟩, .int .i64 0, .int .i64 0, .int .i64 0, .slice none 0 0, .string ⟨#[]⟩, .string ⟨#[]⟩, .string ⟨#[]⟩, .bool false] 71))) := Lib.hid (by repeat (first | exact Below.refl _ _ | refine Below.drew ?_ | refine Below.alloc ?_ (by simp <;> omega) _ | refine Below.setCell ?_ (by simp <;> omega) _))
  have hws : w.heap.size + 1 + 1 < (((w.alloc (.cells #[.slice ao X.length cap, iv] 25)).alloc (.cells #[intC y.2.1, intC y.2.2.1, intC y.2.2.2] 41)).alloc (.cells #[.string ⟨#[]⟩, .int .i64 0, .int .i64 0, .int .i64 0, .slice none 0 0, .string ⟨#[]⟩, .string ⟨#[]⟩, .string ⟨#[]⟩, .bool false] 71)).heap.size := by simp only [World.size_alloc]; omega
  clear hget
  have HST : Hid (∀ (W0 W : World) (x : RelL) (rr : Value), BoxR W0 (w.heap.size + 1 + 1) default (.slice none 0 0) → Below W0.heap.size W0 W → Below w.heap.size w W → o.getD default = x → ReqsOf B0 rr x.reqs W →
      (setRel W (w.heap.size + 1 + 1) x rr).heap[w.heap.size + 1 + 1]? = some (.cells (relC x rr) 71 (0, 0)) ∧ FindR2 B0 w o (.returned (.tuple #[.agg (relC x rr), .bool o.isSome])) (setRel W (w.heap.size + 1 + 1) x rr)) := Lib.hid (by
    intro W0 W x rr h0 hb hbw hx hr
    have h1 := h0.on hb
    have hg := setRel_grown W (w.heap.size + 1 + 1) x rr
    refine ⟨setRel_box x rr h1, rr, by rw [hx], ?_, hbw.grown hg hbw.size (fun b hb => by cases hb; omega)⟩
    rw [hx]
    exact hr.below (B' := w.heap.size) ((Below.refl _ _).grown hg hbw.size (fun b hb => by cases hb; omega)) hB0)
  go_enter Tryz.func119, Tryz.ntmps119
  go_upto_region 1 with fail
  generalize ((w.alloc (.cells #[.slice ao X.length cap, iv] 25)).alloc (.cells #[intC y.2.1, intC y.2.2.1, intC y.2.2.2] 41)).alloc (.cells #[.string ⟨#[]⟩, .int .i64 0, .int .i64 0, .int .i64 0, .slice none 0 0, .string ⟨#[]⟩, .string ⟨#[]⟩, .string ⟨#[]⟩, .bool false] 71) = W at *
  have c0 : W.cell? ⟨w.heap.size, 0, none⟩ = some (.slice ao X.length cap) := cell_of_row _ _ 0 _ _ _ HG.out.1
  have c1 : W.cell? ⟨w.heap.size, 1, none⟩ = some iv := cell_of_row _ _ 1 _ _ _ HG.out.1
  go_wp2_with fail
  refine (HC.out _ HBW.out).mono ?_
  rintro e w1 ⟨rfl, hb1⟩
  have HB1 := Lib.hid (HBW.out.trans (hb1.mono HBW.out.size))
  have HI1 := Lib.hid ((hb1.block w.heap.size (by omega)).trans HG.out.1)
  have HV1 := Lib.hid ((hb1.block (w.heap.size + 1) (by omega)).trans HG.out.2.1)
  have HZ1 := Lib.hid (HG.out.2.2.on hb1)
  have hs1 := hb1.size
  clear hb1 c0 c1 HG HC
  obtain ⟨E, hE⟩ : ∃ E, checkX X = E := ⟨_, rfl⟩
  have HE := Lib.hid hE
  rw [hE]
  clear hE
  have HZC : Hid (∀ W' : World, Below w1.heap.size w1 W' → (W'.cell? ⟨w.heap.size + 1 + 1, 0, none⟩ = some (.string ⟨#[]⟩) ∧ W'.cell? ⟨w.heap.size + 1 + 1, 1, none⟩ = some (.int .i64 0) ∧ W'.cell? ⟨w.heap.size + 1 + 1, 2, none⟩ = some (.int .i64 0) ∧ W'.cell? ⟨w.heap.size + 1 + 1, 3, none⟩ = some (.int .i64 0) ∧ W'.cell? ⟨w.heap.size + 1 + 1, 4, none⟩ = some (.slice none 0 0) ∧ W'.cell? ⟨w.heap.size + 1 + 1, 5, none⟩ = some (.string ⟨#[]⟩) ∧ W'.cell? ⟨w.heap.size + 1 + 1, 6, none⟩ = some (.string ⟨#[]⟩) ∧ W'.cell? ⟨w.heap.size + 1 + 1, 7, none⟩ = some (.string ⟨#[]⟩) ∧ W'.cell? ⟨w.heap.size + 1 + 1, 8, none⟩ = some (.bool false)) ∧ ∀ j, W'.frozen? ⟨w.heap.size + 1 + 1, j, none⟩ = false) :=
    Lib.hid (fun W' hb => ⟨(HZ1.out.on hb).cells, fun j => frozen_of_row _ _ j _ _ (HZ1.out.on hb)⟩)
  by_cases h0 : E = 0
  case neg =>
    have h0b : (E != 0) = true := by simpa using h0
    have HOD : Hid (o = none) := Lib.hid (by rw [← HO.out]; unfold findX; rw [if_neg (by rw [HE.out]; exact h0)])
    obtain ⟨hbx, hfr⟩ := HST.out w1 w1 default (.slice none 0 0) HZ1.out (Below.refl _ _) HB1.out (by rw [HOD.out]; rfl) ⟨none, 0, rfl, fun i q hq => by cases hq⟩
    rw [show o.isSome = false by rw [HOD.out]; rfl] at hfr
    have HBX := Lib.hid hbx
    have HFR := Lib.hid hfr
    obtain ⟨⟨b0, b1, b2, b3, b4, b5, b6, b7, b8⟩, F⟩ := HZC.out w1 (Below.refl _ _)
    have f0 := F 0
    have f1 := F 1
    have f2 := F 2
    have f3 := F 3
    have f4 := F 4
    have f5 := F 5
    have f6 := F 6
    have f7 := F 7
    have f8 := F 8
    clear F hbx hfr
    unfold setRel at HBX HFR
    simp only [show (default : RelL).path = ⟨#[]⟩ from rfl, show (default : RelL).ver = (0, 0, 0) from rfl, show (default : RelL).ar = ⟨#[]⟩ from rfl, show (default : RelL).ifc = ⟨#[]⟩ from rfl, show (default : RelL).cert = ⟨#[]⟩ from rfl, show (default : RelL).yk = false from rfl] at HBX HFR
    go_wp2_with fail
    refine bodyPost_ret (results_cell_tmp rfl _ _ (w.heap.size + 1 + 1) _ _ _ _ rfl HBX.out Tryz.underlying71 rfl (by kernel_rfl)) rfl ?_
    exact HFR.out
  subst h0
  have HOF := Lib.hid (show findR X y = o by rw [← HO.out]; unfold findX; rw [if_pos HE.out])
  go_wp2_with fail
  go_loopw [8] (fun p wr => Hid (∃ k : Nat, k ≤ X.length ∧ p = .int .i64 k ∧ (∀ j, j < k → keyL (X.getD j default) ≠ y) ∧ Below w1.heap.size w1 wr)) (fun p _ => X.length - (intOf p).toNat)
  case atStart => exact Lib.hid ⟨0, Nat.zero_le _, rfl, fun j hj => absurd hj (Nat.not_lt_zero _), Below.refl _ _⟩
  case round =>
    obtain ⟨k, hk, rfl, hn, hb⟩ := hrel.out
    have HN := Lib.hid hn
    have HB := Lib.hid hb
    have hsl := hb.size
    clear hrel hn hb
    have hi := (HB.out.block w.heap.size (by omega)).trans HI1.out
    have hv := (HB.out.block (w.heap.size + 1) (by omega)).trans HV1.out
    have i0 : wr.cell? ⟨w.heap.size, 0, none⟩ = some (.slice ao X.length cap) := cell_of_row _ _ 0 _ _ _ hi
    have v0 : wr.cell? ⟨w.heap.size + 1, 0, none⟩ = some (intC y.2.1) := cell_of_row _ _ 0 _ _ _ hv
    have v1 : wr.cell? ⟨w.heap.size + 1, 1, none⟩ = some (intC y.2.2.1) := cell_of_row _ _ 1 _ _ _ hv
    have v2 : wr.cell? ⟨w.heap.size + 1, 2, none⟩ = some (intC y.2.2.2) := cell_of_row _ _ 2 _ _ _ hv
    clear hi hv
    have HBW2 := Lib.hid (HB1.out.trans (HB.out.mono HB1.out.size))
    by_cases hlt : k < X.length
    case neg =>
      have hk2 : k = X.length := by omega
      subst hk2
      have HOD : Hid (o = none) := Lib.hid (by
        rw [← HOF.out]
        unfold findR
        rw [List.find?_eq_none]
        intro r hr e
        obtain ⟨j, hj, rfl⟩ := List.mem_iff_getElem.1 hr
        have := HN.out j hj
        rw [List.getD_eq_getElem?_getD, List.getElem?_eq_getElem hj] at this
        exact this (of_decide_eq_true e))
      obtain ⟨hbx, hfr⟩ := HST.out w1 wr default (.slice none 0 0) HZ1.out HB.out HBW2.out (by rw [HOD.out]; rfl) ⟨none, 0, rfl, fun i q hq => by cases hq⟩
      rw [show o.isSome = false by rw [HOD.out]; rfl] at hfr
      have HBX := Lib.hid hbx
      have HFR := Lib.hid hfr
      obtain ⟨⟨b0, b1, b2, b3, b4, b5, b6, b7, b8⟩, F⟩ := HZC.out wr HB.out
      have f0 := F 0
      have f1 := F 1
      have f2 := F 2
      have f3 := F 3
      have f4 := F 4
      have f5 := F 5
      have f6 := F 6
      have f7 := F 7
      have f8 := F 8
      clear F hbx hfr
      unfold setRel at HBX HFR
      simp only [show (default : RelL).path = ⟨#[]⟩ from rfl, show (default : RelL).ver = (0, 0, 0) from rfl, show (default : RelL).ar = ⟨#[]⟩ from rfl, show (default : RelL).ifc = ⟨#[]⟩ from rfl, show (default : RelL).cert = ⟨#[]⟩ from rfl, show (default : RelL).yk = false from rfl] at HBX HFR
      go_wp2_with fail
      refine bodyPost_ret (results_cell_tmp rfl _ _ (w.heap.size + 1 + 1) _ _ _ _ rfl HBX.out Tryz.underlying71 rfl (by kernel_rfl)) rfl ?_
      exact HFR.out
    case pos =>
      have hlt2 : (k : Int) < (X.length : Int) := by omega
      have hk0 : (0 : Int) ≤ (k : Int) := by omega
      obtain ⟨b, off, rfl, hbl, hcs, hrq⟩ := HR.out k X[k] (by simp [hlt])
      have hgd : X.getD k default = X[k] := by rw [List.getD_eq_getElem?_getD, List.getElem?_eq_getElem hlt]; rfl
      have HFK := Lib.hid (show keyL (X.getD k default) = y → o = some X[k] from fun h => by
        rw [← HOF.out]
        unfold findR
        rw [List.find?_eq_some_iff_getElem]
        refine ⟨by rw [← hgd]; exact decide_eq_true h, k, hlt, rfl, fun j hj => ?_⟩
        have := HN.out j hj
        rw [List.getD_eq_getElem?_getD, List.getElem?_eq_getElem (show j < X.length by omega)] at this
        simpa using this)
      obtain ⟨x, hx⟩ : ∃ x, X[k] = x := ⟨_, rfl⟩
      rw [hx] at hgd hcs hrq HFK
      have HGD := Lib.hid hgd
      obtain ⟨r, hr⟩ : ∃ r, rv k = r := ⟨_, rfl⟩
      rw [hr] at hcs hrq
      clear hx hgd hr
      have HRQ := Lib.hid hrq
      obtain ⟨ra, rc, rfl, _⟩ := hrq
      have hbl := Nat.lt_of_lt_of_le hbl hB0
      have hbw : b < wr.heap.size := Nat.lt_of_lt_of_le hbl HBW2.out.size
      obtain ⟨d0, d1, d2, d3, d4, d5, d6, d7, d8⟩ := hcs.below HBW2.out hbl
      clear hcs
      have hve : ∀ W, (binOp .eql 41 (.agg #[intC x.ver.1, intC x.ver.2.1, intC x.ver.2.2]) (.agg #[intC y.2.1, intC y.2.2.1, intC y.2.2.2])).run Tryz.prog W = .ok (.bool (decide (x.ver = y.2))) W := fun W => by
        rw [ver_eql]
        congr 2
        by_cases h1 : x.ver.1 = y.2.1 <;> by_cases h2 : x.ver.2.1 = y.2.2.1 <;> by_cases h3 : x.ver.2.2 = y.2.2.2 <;> simp [h1, h2, h3, Prod.ext_iff]
      by_cases hp : x.path = y.1
      case neg =>
        have hpb : (x.path.toList == y.1.toList) = false := by rw [eqs_dec]; exact decide_eq_false hp
        have HN2 := Lib.hid (show ∀ j, j < k + 1 → keyL (X.getD j default) ≠ y from fun j hj => by
          by_cases e : j = k
          · rw [e, HGD.out]; exact fun e => hp (congrArg (·.1) e)
          · exact HN.out j (by omega))
        go_wp2_with fail
        go_quiet (fail)
        have HBQ := Lib.hid (below_drewNV HB.out nq)
        go_wp2_with fail
        all_goals
          refine ⟨Lib.hid ⟨k + 1, by omega, by go_num, HN2.out, HBQ.out⟩, ?_⟩
          simp [intOf]; omega
      have hpb : (x.path.toList == y.1.toList) = true := by rw [eqs_dec]; exact decide_eq_true hp
      by_cases hvv : x.ver = y.2
      case neg =>
        have hvb : decide (x.ver = y.2) = false := decide_eq_false hvv
        simp only [hvb] at hve
        have HN2 := Lib.hid (show ∀ j, j < k + 1 → keyL (X.getD j default) ≠ y from fun j hj => by
          by_cases e : j = k
          · rw [e, HGD.out]; exact fun e => hvv (congrArg (·.2) e)
          · exact HN.out j (by omega))
        go_wp2_with fail
        go_quiet (fail)
        have HBQ := Lib.hid (below_drewNV HB.out nq)
        go_wp2_with fail
        all_goals
          refine ⟨Lib.hid ⟨k + 1, by omega, by go_num, HN2.out, HBQ.out⟩, ?_⟩
          simp [intOf]; omega
      have hvb : decide (x.ver = y.2) = true := decide_eq_true hvv
      simp only [hvb] at hve
      have HOX := Lib.hid (HFK.out (by rw [HGD.out]; exact Prod.ext hp hvv))
      clear hp hvv
      go_wp2_with fail
      go_quiet (fail)
      have HBQ := Lib.hid (below_drewNV HB.out nq)
      have HBZ := Lib.hid (below_drewNV HBW2.out nq)
      have hsq : (wr.drewN nq).heap.size = wr.heap.size := by simp
      have hcells : CellsAt (wr.drewN nq) b (off + k * 9) x (.slice ra x.reqs.length rc) ∧ (wr.drewN nq).cell? ⟨w.heap.size, 0, none⟩ = some (.slice (some ⟨b, off, none⟩) X.length cap) := by
        unfold CellsAt
        simp only [World.cell?_drewN]
        exact ⟨⟨d0, d1, d2, d3, d4, d5, d6, d7, d8⟩, i0⟩
      clear d0 d1 d2 d3 d4 d5 d6 d7 d8 i0 v0 v1 v2 hve hvb hpb
      generalize wr.drewN nq = wx at *
      obtain ⟨⟨d0, d1, d2, d3, d4, d5, d6, d7, d8⟩, i0⟩ := hcells
      obtain ⟨hbx, hfr⟩ := HST.out w1 wx x (.slice ra x.reqs.length rc) HZ1.out HBQ.out HBZ.out (by rw [HOX.out]; rfl) (HRQ.out.below HBZ.out hB0)
      rw [show o.isSome = true by rw [HOX.out]; rfl] at hfr
      have HBX := Lib.hid hbx
      have HFR := Lib.hid hfr
      obtain ⟨⟨b0, b1, b2, b3, b4, b5, b6, b7, b8⟩, F⟩ := HZC.out wx HBQ.out
      have f0 := F 0
      have f1 := F 1
      have f2 := F 2
      have f3 := F 3
      have f4 := F 4
      have f5 := F 5
      have f6 := F 6
      have f7 := F 7
      have f8 := F 8
      clear F hbx hfr
      unfold setRel at HBX HFR
      simp only [relC_at] at HBX HFR
      go_wp2_with fail
      refine bodyPost_ret (results_cell_tmp rfl _ _ (w.heap.size + 1 + 1) _ _ _ _ rfl HBX.out Tryz.underlying71 rfl (by kernel_rfl)) rfl ?_
      exact HFR.out
end Go.Proofs.YtbbnoloploklkaaGreatDoor
