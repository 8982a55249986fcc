/- Contract of the index's Solves. Minimal version selection's laws: need, the example's releases, few, satisfied. -/
import Derived.Test.YtenfkejbndifdaaGreatDoorUQ
import Derived.Test.YtenfkejbndifdaaGreatDoorVA
import Derived.Test.YtenfkejbndifdaaGreatDoorUJ
namespace Go.Proofs.YtenfkejbndifdaaGreatDoor
set_option linter.unusedVariables false
set_option linter.unusedSimpArgs false
open Go Go.RowKit Go.Maps

def SolveR (w : World) (X : List RelL) (roots : List ReqL) (s : List SelL) (e : Ending) (w' : World) : Prop :=
  Below w.heap.size w w' ∧ ∃ E, e = .returned (.int .i64 E) ∧ ((E = 0 ∨ E = 8) ↔ SatP X roots s) ∧ (E = 0 → ∀ y ∈ s, Need X roots s y.1)
theorem SolveR.no {w w' : World} {X : List RelL} {roots : List ReqL} {s : List SelL} {E : Int} (hb : Below w.heap.size w w') (h0 : E ≠ 0) (h8 : E ≠ 8) (hn : ¬ SatP X roots s) : SolveR w X roots s (.returned (.int .i64 E)) w' :=
  ⟨hb, E, rfl, ⟨fun h => h.elim (fun h => absurd h h0) (fun h => absurd h h8), fun h => absurd h hn⟩, fun h => absurd h h0⟩
set_option maxRecDepth 100000 in
set_option maxHeartbeats 8000000 in
theorem Solves_any (v iv rov sv : Value) (X : List RelL) (roots : List ReqL) (s : List SelL) (w : World) (hm : MaxOk w) (hX : X.length ≤ 1000000) (hq : ∀ x ∈ X, RelBd x) (hR : RelsOf w.heap.size v X w)
    (hro : roots.length ≤ 1000000) (hrq : ∀ q ∈ roots, q.1.size ≤ 1000000 ∧ q.2.length ≤ 1000000) (hRo : ReqsOf w.heap.size rov roots w) (hs : s.length ≤ 1000000) (hy : ∀ y ∈ s, SelBd y) (hS : SelsOf w.heap.size sv s w) :
    Calls Tryz.prog 94 #[.agg #[v, iv], rov, sv] w (SolveR w X roots s) := by
  have HN := Lib.hid (fun W (hb : RowKit.Below w.heap.size w W) => newTable_any v iv X W (hm.below hb hm.pos) hX hq ((hR.below hb (Nat.le_refl _)).mono hb.size))
  have HRo := Lib.hid hRo
  have HS := Lib.hid hS
  obtain ⟨ra, rc, rfl⟩ : ∃ ra rc, rov = .slice ra roots.length rc := by obtain ⟨a, c, e, _⟩ := hRo; exact ⟨a, c, e⟩
  obtain ⟨sa, sc, rfl⟩ : ∃ sa sc, sv = .slice sa s.length sc := by obtain ⟨a, c, e, _⟩ := hS; exact ⟨a, c, e⟩
  obtain ⟨va, vn, vc, rfl⟩ : ∃ a n c, v = .slice a n c := by obtain ⟨a, c, _, e, _⟩ := hR.rv; exact ⟨_, _, _, e⟩
  clear hm hR hRo hS
  have HB0 : Hid (Below w.heap.size w (w.alloc (.cells #[.slice va vn vc, iv] 25))) := Lib.hid (belQ _ _)
  have HI0 : Hid ((w.alloc (.cells #[.slice va vn vc, iv] 25)).heap[w.heap.size]? = some (.cells #[.slice va vn vc, iv] 25 (0, 0))) := Lib.hid (World.alloc_heap_new w _)
  have hw0 : w.heap.size < (w.alloc (.cells #[.slice va vn vc, iv] 25)).heap.size := by simp
  go_enter Tryz.func94, Tryz.ntmps94
  go_upto_region 1 with fail
  generalize w.alloc (.cells #[.slice va vn vc, iv] 25) = W at *
  have c0 : W.cell? ⟨w.heap.size, 0, none⟩ = some (.slice va vn vc) := cell_of_row _ _ 0 _ _ _ HI0.out
  have c1 : W.cell? ⟨w.heap.size, 1, none⟩ = some iv := cell_of_row _ _ 1 _ _ _ HI0.out
  go_wp2_with fail
  refine (HN.out _ HB0.out).mono ?_
  rintro e w1 ⟨m1, m2, rfl, hb1, hm1, ht1⟩
  have HB1 := Lib.hid (HB0.out.trans (hb1.mono HB0.out.size))
  have hs1 := hb1.size
  have HT1 : Hid (TabOf w1 W.heap.size m1 (tabX X)) := Lib.hid ht1
  obtain ⟨cx, hcx⟩ : ∃ cx, checkX X = cx := ⟨_, rfl⟩
  rw [hcx]
  have HCX := Lib.hid hcx
  clear hb1 ht1 c0 c1 hcx
  by_cases h1 : cx = 0
  case neg =>
    have h1b : (cx != 0) = true := by simpa using h1
    have HBF := Lib.hid (HB1.out.trans ((belQ w1 (.cells #[.map (some m1), .map (some m2)] 138)).mono HB1.out.size))
    go_wp2_with fail
    go_ret
    exact SolveR.no HBF.out (by decide) (by decide) (fun h => h1 (HCX.out.symm.trans h.ok))
  subst h1
  have HT2 := Lib.hid (HT1.out.below (belQ w1 (.cells #[.map (some m1), .map (some m2)] 138)) hs1)
  have HB2 := Lib.hid (HB1.out.trans ((belQ w1 (.cells #[.map (some m1), .map (some m2)] 138)).mono HB1.out.size))
  go_upto_region 4 with fail
  have HN2 := Lib.hid (World.alloc_heap_new w1 (.cells #[.map (some m1), .map (some m2)] 138))
  have hs2 : w1.heap.size < (w1.alloc (.cells #[.map (some m1), .map (some m2)] 138)).heap.size := by simp
  generalize hW2 : w1.alloc (.cells #[.map (some m1), .map (some m2)] 138) = W2 at *
  have t0 : W2.cell? ⟨w1.heap.size, 0, none⟩ = some (.map (some m1)) := cell_of_row _ _ 0 _ _ _ HN2.out
  have t1 : W2.cell? ⟨w1.heap.size, 1, none⟩ = some (.map (some m2)) := cell_of_row _ _ 1 _ _ _ HN2.out
  go_wp2_with fail
  refine (selected_any m1 m2 _ X W.heap.size s W2 (by omega) HT2.out hs hy ((HS.out.below HB2.out (Nat.le_refl _)).mono HB2.out.size)).mono ?_
  rintro e w3 ⟨hb3, h3⟩
  have HB3 := Lib.hid (HB2.out.trans (hb3.mono HB2.out.size))
  have hw3 : W.heap.size ≤ w3.heap.size := by have := hb3.size; omega
  clear hb3 t0 t1
  rcases h3 with ⟨hn, rfl⟩ | ⟨hi, ⟨y, hy1, hy2⟩, rfl⟩ | ⟨hi, hfo, v3, rs, rfl, hrl, how, hrq3⟩
  · go_wp2_with fail
    go_ret
    exact SolveR.no HB3.out (by decide) (by decide) (fun h => hn h.incr)
  · have HNO := Lib.hid (show ¬ SatP X roots s from fun h => by
      have := h.found y hy1
      unfold findX at hy2
      rw [if_pos HCX.out] at hy2
      rw [hy2] at this
      cases this)
    go_wp2_with fail
    go_ret
    exact SolveR.no HB3.out (by decide) (by decide) HNO.out
  have HIN := Lib.hid hi
  have HFO := Lib.hid hfo
  have HRL := Lib.hid hrl
  have HOW := Lib.hid how
  have HRQ3 := Lib.hid hrq3
  clear hi hfo hrl how hrq3
  have hs3 := HB3.out.size
  have hpk : (pickK X s s.length).length = s.length := pickK_length (Nat.le_refl _)
  have HRX : Hid (RelsOf w3.heap.size v3 (pickK X s s.length) w3) := Lib.hid (own_rels (B := W2.heap.size) (B2 := W.heap.size) (HRL.out.trans hpk.symm) (by rw [hpk]; exact HOW.out) hw3 (by rw [hpk]; exact HRQ3.out))
  obtain ⟨xo, xc, hv3⟩ : ∃ xo xc, v3 = .slice xo s.length xc := by obtain ⟨a, c, e, _⟩ := HRX.out; exact ⟨a, c, by rw [e, hpk]⟩
  subst hv3
  clear hpk
  have HM4 := Lib.hid ((MapF.made Tryz.prog 9 w3).alloc (.cells #[.map (some w3.heap.size)] 171))
  have HC4 : Hid (((w3.alloc (.map #[] 0)).alloc (.cells #[.map (some w3.heap.size)] 171)).heap[w3.heap.size + 1]? = some (.cells #[.map (some w3.heap.size)] 171 (0, 0))) := Lib.hid (by
    have := World.alloc_heap_new (w3.alloc (.map #[] 0)) (.cells #[.map (some w3.heap.size)] 171)
    rwa [World.size_alloc] at this)
  have HB43 : Hid (Below w3.heap.size w3 ((w3.alloc (.map #[] 0)).alloc (.cells #[.map (some w3.heap.size)] 171))) := Lib.hid (by repeat (first | exact Below.refl _ _ | refine Below.drew ?_ | refine Below.alloc ?_ (by simp <;> omega) _ | refine Below.setCell ?_ (by simp <;> omega) _))
  have hmm := @run_makeMap Tryz.prog
  go_wp2_with fail
  go_upto_region 8 with fail
  generalize hW4 : (w3.alloc (.map #[] 0)).alloc (.cells #[.map (some w3.heap.size)] 171) = W4 at *
  clear hW4
  obtain ⟨G, hG⟩ : ∃ G : RelL → Value → Prop, (fun x r => x ∈ X ∧ ReqsOf w3.heap.size r x.reqs w3) = G := ⟨_, rfl⟩
  have HG := Lib.hid hG
  clear hG hmm
  go_wp2_with fail
  go_loopw [38] (fun p wr => ∃ k : Nat, k ≤ s.length ∧ p = .int .i64 k ∧ Hid (∃ f, MapF Tryz.prog 9 wr w3.heap.size k f ∧ SelF G (s.take k) f) ∧ Hid (Below w3.heap.size w3 wr) ∧ Hid (wr.heap[w3.heap.size + 1]? = some (.cells #[.map (some w3.heap.size)] 171 (0, 0)))) (fun p _ => s.length - (intOf p).toNat)
  case atStart => exact ⟨0, Nat.zero_le _, rfl, Lib.hid ⟨_, HM4.out, SelF.start G⟩, HB43, HC4⟩
  case round =>
    obtain ⟨k, hk, rfl, HF, HB, HC⟩ := hrel
    by_cases hlt : k < s.length
    case neg =>
      have hk2 : k = s.length := by omega
      subst hk2
      obtain ⟨wA, rfl⟩ : ∃ wA : World, wA = wr := ⟨_, rfl⟩
      obtain ⟨f, hf, hsf⟩ := HF.out
      rw [List.take_length] at hsf
      have HMF := Lib.hid hf
      have HSF := Lib.hid hsf
      clear HF hf hsf
      have HNO := Lib.hid (incrS_nodup HIN.out)
      have HVA : Hid (∀ y ∈ s, validB y.2.1 y.2.2.1 y.2.2.2 = true) := Lib.hid (fun y hy => by
        obtain ⟨x, hx⟩ := Option.isSome_iff_exists.1 (HFO.out y hy)
        unfold findX at hx
        rw [if_pos HCX.out] at hx
        unfold findR at hx
        have h1 := valid_of_check HCX.out (List.mem_of_find?_eq_some hx)
        have h2 : keyL x = y := by have := List.find?_some hx; simpa using this
        rw [← h2]
        exact h1)
      have HGS : Hid (∀ x r, G x r → ∃ a n c, r = .slice a n c) := Lib.hid (fun x r h => by
        rw [← HG.out] at h
        obtain ⟨_, a, c, e, _⟩ := h
        exact ⟨a, _, c, e⟩)
      have hcl : w3.heap.size + 1 < wA.heap.size := (Array.getElem?_eq_some_iff.1 HC.out).1
      have HHAS : Hid (∀ (v : Value) (es : List ReqL) (W : World), es.length ≤ 1000000 → (∀ q ∈ es, q.1.size ≤ 1000000 ∧ q.2.length ≤ 1000000) → Below wA.heap.size wA W → ReqsOf W.heap.size v es W →
          Calls Tryz.prog 33 #[v, .func (.func 133) #[] #[.pointer (some ⟨w3.heap.size + 1, 0, none⟩)]] W fun e w' => e = .returned (.bool (es.any fun q => !metB s q)) ∧ Below W.heap.size W w') :=
        Lib.hid (fun v es W hl hq hb hE => has_req 133 _ (enters_of Tryz.func133 (by kernel_rfl) rfl) _ v es W (by omega) hE
          (broken_pred G HGS.out s f HNO.out HVA.out HSF.out es w3.heap.size s.length (w3.heap.size + 1) W hq (HMF.out.below hb) (cell_of_row _ _ 0 _ _ _ ((hb.block _ hcl).trans HC.out))))
      have hwr : w3.heap.size ≤ wA.heap.size := HB.out.size
      go_wp2_with fail
      go_loopw [50] (fun p wr2 => ∃ k : Nat, k ≤ s.length ∧ p = .int .i64 k ∧ Hid (∀ j, j < k → ∀ q ∈ reqsOf X (s.getD j default), metB s q = true) ∧ Hid (Below wA.heap.size wA wr2)) (fun p _ => s.length - (intOf p).toNat)
      case atStart => exact ⟨0, Nat.zero_le _, rfl, Lib.hid (fun j hj => absurd hj (Nat.not_lt_zero _)), Lib.hid (Below.refl _ _)⟩
      case round =>
        obtain ⟨k, hk, rfl, HMT, HB2⟩ := hrel
        have hs2 := HB2.out.size
        by_cases hlt2 : k < s.length
        case neg =>
          have hk3 : k = s.length := by omega
          subst hk3
          obtain ⟨wr2, rfl⟩ : ∃ wr2 : World, wr2 = wr := ⟨_, rfl⟩
          have HOWN : Hid (∀ y ∈ s, ∀ q ∈ reqsOf X y, metB s q = true) := Lib.hid (fun y hy => by
            obtain ⟨j, hj, rfl⟩ := List.mem_iff_getElem.1 hy
            have := HMT.out j hj
            rwa [List.getD_eq_getElem?_getD, List.getElem?_eq_getElem hj] at this)
          have HBW := Lib.hid (HB3.out.trans ((HB.out.trans (HB2.out.mono hwr)).mono hs3))
          have HRO2 := Lib.hid ((HRo.out.below HBW.out (Nat.le_refl _)).mono HBW.out.size)
          obtain ⟨bb, hbb⟩ : ∃ bb, (roots.any fun q => !metB s q) = bb := ⟨_, rfl⟩
          have HBBB := Lib.hid hbb
          clear hbb
          go_wp2_with fail
          refine (HHAS.out _ roots _ hro hrq HB2.out HRO2.out).mono ?_
          rintro e w5 ⟨rfl, hb5⟩
          rw [HBBB.out]
          have HB5 := Lib.hid (HB2.out.trans (hb5.mono HB2.out.size))
          have hs5 := HB5.out.size
          have HBW5 := Lib.hid (HB3.out.trans ((HB.out.trans (HB5.out.mono hwr)).mono hs3))
          clear hb5
          cases bb with
          | true =>
            have HNS : Hid (¬ SatP X roots s) := Lib.hid (fun h => by
              obtain ⟨q, hq1, hq2⟩ := List.any_eq_true.1 HBBB.out
              have := h.root q hq1
              rw [this] at hq2
              cases hq2)
            go_wp2_with fail
            go_ret
            exact SolveR.no HBW5.out (by decide) (by decide) HNS.out
          | false =>
            have HSAT : Hid (SatP X roots s) := Lib.hid ⟨HCX.out, HIN.out, fun y hy => by
              have := HFO.out y hy
              unfold findX at this
              rwa [if_pos HCX.out] at this, HOWN.out, all_met HBBB.out⟩
            have HM6 := Lib.hid (MapF.made Tryz.prog 9 w5)
            have HB56 : Hid (Below w5.heap.size w5 (w5.alloc (.map #[] 0))) := Lib.hid (belQ w5 _)
            have HBW6 := Lib.hid (HBW5.out.trans (HB56.out.mono HBW5.out.size))
            have HRO6 := Lib.hid ((HRo.out.below HBW6.out (Nat.le_refl _)).mono HBW6.out.size)
            have hmm := @run_makeMap Tryz.prog
            go_wp2_with fail
            refine (CloneQ_any (.slice ra roots.length rc) roots _ hro HRO6.out).mono ?_
            rintro e w7 ⟨v7, xs7, rfl, how, hrx, hb7⟩
            have HM7 := Lib.hid (HM6.out.below hb7)
            have HB57 := Lib.hid (HB56.out.trans (hb7.mono HB56.out.size))
            have HSG7 : Hid (SegC w7 (w5.heap.size + 1) 2 v7 roots.length xs7) := Lib.hid (by
              have := own_seg how (by omega)
              rwa [World.size_alloc] at this)
            have HPX7 := Lib.hid hrx.paths
            clear how hrx hb7 hmm
            obtain ⟨i0, hi0, hz0, hz1, hz2⟩ := info_parts info_reqs
            go_wp2_with fail
            go_loopw [17] (fun tv wr => Hid (∃ (seen : List ByteArray) (todo : List ReqL) (xs : List Value) (f2 : Lit → Option Value), NeedI X roots s seen todo ∧ SegC wr (w5.heap.size + 1) 2 tv todo.length xs ∧ PathXs todo xs ∧ MapF Tryz.prog 9 wr w5.heap.size seen.length f2 ∧ SeenF seen f2 ∧ todo.length + 17 * (s.length - seen.length) ≤ roots.length + 17 * s.length ∧ Below w5.heap.size w5 wr)) (fun tv wr => sliceN tv + 17 * (s.length - mapLen Tryz.prog 9 wr w5.heap.size))
            case atStart => exact Lib.hid ⟨[], roots, xs7, _, NeedI.start HSAT.out, HSG7.out, HPX7.out, HM7.out, SeenF.start, by simp, HB57.out⟩
            case round =>
              obtain ⟨seen, todo, xs, f2, hnd, hsg, hpx, hmf, hsf, hle, hbb⟩ := hrel.out
              have HND := Lib.hid hnd
              have HSG := Lib.hid hsg
              have HPX := Lib.hid hpx
              have HM8 := Lib.hid hmf
              have HSE := Lib.hid hsf
              have HLE := Lib.hid hle
              have HB58 := Lib.hid hbb
              have hsl := hnd.len
              have hs8 := hbb.size
              have hml : w5.heap.size < wr.heap.size := hmf.lt
              clear hrel hnd hsg hpx hmf hsf hle hbb
              have HBZ := Lib.hid (HBW5.out.trans (HB58.out.mono HBW5.out.size))
              cases todo with
              | nil =>
                obtain ⟨ta, tc, rfl⟩ := HSG.out.shape
                simp only [List.length_nil] at *
                by_cases hlast : seen.length < s.length
                · have hla : ((seen.length : Nat) : Int) < ((s.length : Nat) : Int) := by omega
                  go_wp2_with (at_len; refine wpList_len_F rfl _ 173 rfl 9 4 lawStr Tryz.underlying173 w5.heap.size seen.length f2 (by rfl) HM8.out (seen.map keyP) (seen_nodup HND.out.nodup) HSE.out.keys ?_; rw [List.length_map])
                  go_ret
                  exact ⟨HBZ.out, 8, rfl, ⟨fun _ => HSAT.out, fun _ => .inr rfl⟩, fun h => absurd h (by decide)⟩
                · have hla : ¬ ((seen.length : Nat) : Int) < ((s.length : Nat) : Int) := by omega
                  go_wp2_with (at_len; refine wpList_len_F rfl _ 173 rfl 9 4 lawStr Tryz.underlying173 w5.heap.size seen.length f2 (by rfl) HM8.out (seen.map keyP) (seen_nodup HND.out.nodup) HSE.out.keys ?_; rw [List.length_map])
                  go_ret
                  exact ⟨HBZ.out, 0, rfl, ⟨fun _ => HSAT.out, fun _ => .inl rfl⟩, fun _ => HND.out.all (by omega)⟩
              | cons q todo =>
                obtain ⟨qg, qo, qc, rfl, hcell, htail⟩ := SegC.head (n := todo.length) HSG.out
                obtain ⟨hp0, qra, qrn, qrc, hp1⟩ := HPX.out 0 q rfl
                have c0 : wr.cell? ⟨qg, qo, none⟩ = some (.string q.1) := (hcell 0 (by omega)).trans hp0
                have c1 : wr.cell? ⟨qg, qo + 1, none⟩ = some (.slice qra qrn qrc) := (hcell 1 (by omega)).trans hp1
                generalize hqa : (if qc = 0 then some (⟨qg, qo, none⟩ : Addr) else some ⟨qg, qo + 2, none⟩) = qa at htail
                have HTL := Lib.hid htail
                have HPT := Lib.hid HPX.out.tail
                have HQN := Lib.hid (HND.out.todo q (by simp))
                have hqp : q.1.size ≤ maxLen := by
                  obtain ⟨y, hy1, hy2⟩ := List.mem_map.1 HQN.out.2
                  rw [← hy2]
                  exact (hy y hy1).path
                have HKY := Lib.hid (keyStr hqp)
                have HM9 := Lib.hid (HM8.out.alloc (.cells #[.string q.1, .slice qra qrn qrc] 58))
                have HB9 : Hid (Below w5.heap.size w5 (wr.alloc (.cells #[.string q.1, .slice qra qrn qrc] 58))) := Lib.hid (HB58.out.alloc hs8 _)
                have HL1 := Lib.hid (HSE.out.size lawStr HM8.out HND.out.nodup)
                have HTL9 := Lib.hid (HTL.out.far (W' := wr.alloc (.cells #[.string q.1, .slice qra qrn qrc] 58)) (by rw [World.size_alloc]; omega) (fun b hb => (belQ wr _).block b (HTL.out.lt b hb).2))
                have HLE9 : Hid ((todo.length + 1) + 17 * (s.length - seen.length) ≤ roots.length + 17 * s.length) := HLE
                have hql : (0 : Int) < ((todo.length + 1 : Nat) : Int) := by omega
                have hztd : ∀ W, (zeroValue 4).run Tryz.prog W = .ok (.bool false) W := Tryz.zeroValue4
                have HZB := Lib.hid hztd
                obtain ⟨sb, hlk, hsb⟩ := HSE.out.look q.1
                have HLK := Lib.hid hlk
                have HSB := Lib.hid hsb
                clear hlk
                clear hsb hcell htail hp0 hp1 HSG HPX hztd
                cases sb with
                | true =>
                  have HL2 := Lib.hid (HSE.out.size lawStr HM9.out HND.out.nodup)
                  go_wp2_with (at_lookup; refine wpList_look_F rfl _ _ 173 rfl 9 4 lawStr Tryz.underlying173 (HZB.out _) w5.heap.size seen.length f2 (by rfl) HM9.out _ (.string q.1.data.toList) rfl HKY.out ?_; rw [HLK.out])
                  refine ⟨Lib.hid ⟨seen, todo, _, f2, HND.out.skip, HTL9.out, HPT.out, HM9.out, HSE.out, by have := HLE9.out; omega, HB9.out⟩, ?_⟩
                  rw [HL1.out, HL2.out]
                  simp [sliceN]
                | false =>
                  have HNS : Hid (q.1 ∉ seen) := Lib.hid (fun h => absurd (HSB.out.2 h) (by decide))
                  obtain ⟨x, r, hx1, hx2, hx3, hx4⟩ : ∃ x r, keyL x ∈ s ∧ x.path = q.1 ∧ G x r ∧ f (.string q.1.data.toList) = some (.agg (relC x r)) := by
                    rcases HSF.out q.1 with h | ⟨_, h⟩
                    · exact h
                    · obtain ⟨y, hy1, hy2⟩ := List.mem_map.1 HQN.out.2
                      exact absurd hy2 (h y hy1)
                  have hg : x ∈ X ∧ ReqsOf w3.heap.size r x.reqs w3 := by rw [← HG.out] at hx3; exact hx3
                  have HRR : Hid (reqsOf X (keyL x) = x.reqs) := Lib.hid (by
                    obtain ⟨i, hi, rfl⟩ := List.mem_iff_getElem.1 hg.1
                    have := findR_at (idx_ok HCX.out) hi
                    rw [List.getD_eq_getElem?_getD, List.getElem?_eq_getElem hi] at this
                    simp only [Option.getD_some] at this
                    unfold reqsOf
                    rw [this])
                  have h16 : x.reqs.length ≤ 16 := by have := reqsOf_len HCX.out (keyL x); rwa [HRR.out] at this
                  have HGR := Lib.hid hg.2
                  obtain ⟨rr, rcap, rfl⟩ : ∃ rr rcap, r = .slice rr x.reqs.length rcap := by obtain ⟨a, c, e, _⟩ := hg.2; exact ⟨a, c, e⟩
                  have HFE := Lib.hid (show (f (.string q.1.data.toList)).getD zeroR = .agg (relC x (.slice rr x.reqs.length rcap)) by rw [hx4]; rfl)
                  have HMK := Lib.hid (HND.out.mark HSAT.out HNS.out hx1 hx2)
                  rw [HRR.out] at HMK
                  have hsl2 : seen.length + 1 ≤ s.length := HMK.out.len
                  have hsm : todo.length + x.reqs.length ≤ 20000000 := by have := HLE9.out; omega
                  have HZR := Lib.hid (show ∀ W, (zeroValue 71).run Tryz.prog W = .ok zeroR W from Tryz.zeroValue71)
                  clear hx1 hx2 hx3 hx4 hg
                  have HBX := Lib.hid (World.alloc_heap_new wr (.cells #[.string q.1, .slice qra qrn qrc] 58))
                  simp only [relC] at HFE
                  go_upto_region 28 with (at_lookup; refine wpList_look_F rfl _ _ 173 rfl 9 4 lawStr Tryz.underlying173 (HZB.out _) w5.heap.size seen.length f2 (by rfl) HM9.out _ (.string q.1.data.toList) rfl HKY.out ?_; rw [HLK.out])
                  have hs9 : wr.heap.size < (wr.alloc (.cells #[.string q.1, .slice qra qrn qrc] 58)).heap.size := by simp
                  clear c0 c1
                  generalize wr.alloc (.cells #[.string q.1, .slice qra qrn qrc] 58) = W9 at *
                  have c0 : W9.cell? ⟨wr.heap.size, 0, none⟩ = some (.string q.1) := cell_of_row _ _ 0 _ _ _ HBX.out
                  go_upto_region 29 with (refine wpList_put_F rfl _ _ _ _ rfl 9 4 lawStr Tryz.underlying173 w5.heap.size seen.length f2 (by rfl) HM9.out (by unfold maxLen; omega) _ _ (.string q.1.data.toList) rfl rfl HKY.out ?_; intro W11 h11 g11; have H11 := Lib.hid h11; have G11 := Lib.hid g11; clear h11 g11)
                  have hsz9 := HB9.out.size
                  have hfr := field_reqs x (.slice rr x.reqs.length rcap) W11
                  have HB11 : Hid (Below w5.heap.size w5 W11) := Lib.hid (HB9.out.grown G11.out hsz9 (fun b hb => by cases hb; exact Nat.le_refl _))
                  have HBW11 := Lib.hid (HB5.out.trans (HB11.out.mono hs5))
                  have HBX11 := Lib.hid ((G11.out.block wr.heap.size hs9 (by intro e; injection e with e; omega)).trans HBX.out)
                  have HC11 := Lib.hid ((HBW11.out.block _ hcl).trans HC.out)
                  have HMF11 := Lib.hid (HMF.out.below HBW11.out)
                  have HTL11 := Lib.hid (HTL9.out.far G11.out.size (fun b hb => G11.out.block b (HTL9.out.lt b hb).2 (by intro e; injection e with e; have := (HTL9.out.lt b hb).1; omega)))
                  have hs11 := HB11.out.size
                  have hs11b : w5.heap.size + 1 ≤ W11.heap.size := by have := G11.out.size; omega
                  obtain ⟨news, hsrc, hpn⟩ := reqs_src (HGR.out.below (HB.out.trans (HBW11.out.mono hwr)) (Nat.le_refl _))
                  have HSRC := Lib.hid hsrc
                  have HPN := Lib.hid (HPT.out.app (by have := HTL11.out.len; rw [this]) hpn)
                  have HSE11 := Lib.hid (HSE.out.put q.1)
                  clear hsrc hpn c0
                  have c0 : W11.cell? ⟨wr.heap.size, 0, none⟩ = some (.string q.1) := cell_of_row _ _ 0 _ _ _ HBX11.out
                  have c1 : W11.cell? ⟨w3.heap.size + 1, 0, none⟩ = some (.map (some w3.heap.size)) := cell_of_row _ _ 0 _ _ _ HC11.out
                  go_wp2_with (first | (at_lookup; refine wpList_look_F rfl _ _ 171 rfl 9 71 lawStr Tryz.underlying171 (HZR.out _) w3.heap.size s.length f (by rfl) HMF11.out _ (.string q.1.data.toList) rfl HKY.out ?_; rw [HFE.out]) | (at_builtin; refine wpList_append_segC _ rfl _ _ 26 26 rfl 58 i0 _ 40 2 Tryz.underlying26 hi0 hz0 hz1 hz2 rfl (w5.heap.size + 1) (.slice qa todo.length qc) todo.length (xs.drop 2) (by rfl) HTL11.out hs11b x.reqs.length news HSRC.out (by unfold maxLen; omega) (by have := hsm; generalize todo.length + x.reqs.length = z at this ⊢; omega) ?_; intro v12 W12 h12 g12 _; have H12 := Lib.hid h12; have G12 := Lib.hid g12; obtain ⟨va12, vc12, rfl⟩ := h12.shape; clear h12 g12))
                  have HB12 : Hid (Below w5.heap.size w5 W12) := Lib.hid (HB11.out.grown G12.out hs11 (fun b hb => by have := (HTL11.out.lt b hb).1; omega))
                  have HM12 := Lib.hid (H11.out.kept G12.out (fun e => by have := (HTL11.out.lt _ e.symm).1; omega))
                  have HL2 := Lib.hid (HSE11.out.size lawStr HM12.out HMK.out.nodup)
                  refine ⟨Lib.hid ⟨q.1 :: seen, todo ++ x.reqs, xs.drop 2 ++ news, _, HMK.out, by rw [List.length_append]; exact H12.out, HPN.out, HM12.out, HSE11.out, by have := HLE9.out; rw [List.length_append, List.length_cons]; omega, HB12.out⟩, ?_⟩
                  rw [HL1.out, HL2.out]
                  simp only [sliceN, List.length_cons]
                  omega
        case pos =>
          obtain ⟨x, hxk, hxf, hxX, hxl, hxr⟩ := pick_at HCX.out HFO.out hlt2
          obtain ⟨ao, cap, e, hel⟩ := HRX.out
          injection e with e1 e2 e3
          subst e1
          obtain ⟨b, off, rfl, hbl, hat⟩ := hel k x hxk
          clear e2 e3 hel
          obtain ⟨r, a0, a1, a2, a3, a4, a5, a6, a7, a8, g9⟩ := hat
          have HB32 := Lib.hid (HB.out.trans (HB2.out.mono hwr))
          obtain ⟨g0, g1, g2, g3, g4, g5, g6, g7, g8⟩ := (show CellsAt w3 b (off + k * 9) x r from ⟨a0, a1, a2, a3, a4, a5, a6, a7, a8⟩).below HB32.out hbl
          clear a0 a1 a2 a3 a4 a5 a6 a7 a8
          have G9 := Lib.hid g9
          obtain ⟨rr, rcap, rfl⟩ : ∃ rr rcap, r = .slice rr x.reqs.length rcap := by obtain ⟨a, c, e, _⟩ := g9; exact ⟨a, c, e⟩
          clear g9
          have HXR := Lib.hid (And.intro hxX (And.intro hxr hxf))
          have HB9 : Hid (Below wA.heap.size wA (wr.alloc (.cells #[.string x.path, intC x.ver.1, intC x.ver.2.1, intC x.ver.2.2, .slice rr x.reqs.length rcap, .string x.ar, .string x.ifc, .string x.cert, .bool x.yk] 71))) := Lib.hid (HB2.out.alloc hs2 _)
          have HRQ9 : Hid (ReqsOf (wr.alloc (.cells #[.string x.path, intC x.ver.1, intC x.ver.2.1, intC x.ver.2.2, .slice rr x.reqs.length rcap, .string x.ar, .string x.ifc, .string x.cert, .bool x.yk] 71)).heap.size (.slice rr x.reqs.length rcap) x.reqs (wr.alloc (.cells #[.string x.path, intC x.ver.1, intC x.ver.2.1, intC x.ver.2.2, .slice rr x.reqs.length rcap, .string x.ar, .string x.ifc, .string x.cert, .bool x.yk] 71))) :=
            Lib.hid ((G9.out.below (HB32.out.alloc HB32.out.size _) (Nat.le_refl _)).mono (by rw [World.size_alloc]; omega))
          have HXB := Lib.hid (hq x hxX)
          obtain ⟨bb, hbb⟩ : ∃ bb, (x.reqs.any fun q => !metB s q) = bb := ⟨_, rfl⟩
          have HBBB := Lib.hid hbb
          clear hxk hxf hxX hxl hxr hbb
          go_wp2_with fail
          refine (HHAS.out _ x.reqs _ HXB.out.len HXB.out.reqs HB9.out HRQ9.out).mono ?_
          rintro e w5 ⟨rfl, hb5⟩
          rw [HBBB.out]
          have HB5 := Lib.hid (HB9.out.trans (hb5.mono HB9.out.size))
          clear hb5
          cases bb with
          | true =>
            have HNS : Hid (¬ SatP X roots s) := Lib.hid (fun h => by
              obtain ⟨q, hq1, hq2⟩ := List.any_eq_true.1 HBBB.out
              have := h.own (s.getD k default) (by rw [List.getD_eq_getElem?_getD, List.getElem?_eq_getElem hlt2]; exact List.getElem_mem hlt2) q (by rw [HXR.out.2.1]; exact hq1)
              rw [this] at hq2
              cases hq2)
            go_wp2_with fail
            go_ret
            exact SolveR.no (HB3.out.trans ((HB.out.trans (HB5.out.mono hwr)).mono HB3.out.size)) (by decide) (by decide) HNS.out
          | false =>
            have HM2 : Hid (∀ j, j < k + 1 → ∀ q ∈ reqsOf X (s.getD j default), metB s q = true) := Lib.hid (fun j hj q hq2 => by
              by_cases e : j = k
              · subst e
                rw [HXR.out.2.1] at hq2
                exact all_met HBBB.out q hq2
              · exact HMT.out j (by omega) q hq2)
            go_wp2_with fail
            go_roundw
            case rel => exact ⟨k + 1, by omega, by go_num, HM2, HB5⟩
            case measure => simp [intOf]; omega
    case pos =>
      obtain ⟨f, hf, hsf⟩ := HF.out
      have HMF := Lib.hid hf
      have HSF := Lib.hid hsf
      clear hf hsf
      obtain ⟨x, hxk⟩ : ∃ x, (pickK X s s.length)[k]? = some x := ⟨_, List.getElem?_eq_getElem (by rw [pickK_length (Nat.le_refl _)]; exact hlt)⟩
      obtain ⟨ao, cap, e, hel⟩ := HRX.out
      injection e with e1 e2 e3
      subst e1
      obtain ⟨b, off, rfl, hbl, hat⟩ := hel k x hxk
      clear e2 e3 hel
      obtain ⟨r, a0, a1, a2, a3, a4, a5, a6, a7, a8, g9⟩ := hat
      obtain ⟨g0, g1, g2, g3, g4, g5, g6, g7, g8⟩ := (show CellsAt w3 b (off + k * 9) x r from ⟨a0, a1, a2, a3, a4, a5, a6, a7, a8⟩).below HB.out hbl
      clear a0 a1 a2 a3 a4 a5 a6 a7 a8
      have G9 := Lib.hid g9
      obtain ⟨rr, rcap, rfl⟩ : ∃ rr rcap, r = .slice rr x.reqs.length rcap := by obtain ⟨a, c, e, _⟩ := g9; exact ⟨a, c, e⟩
      have c0 : wr.cell? ⟨w3.heap.size + 1, 0, none⟩ = some (.map (some w3.heap.size)) := cell_of_row _ _ 0 _ _ _ HC.out
      clear g9
      have hxf : findX X (s.getD k default) = some x := by
        obtain ⟨x2, hx2⟩ := Option.isSome_iff_exists.1 (HFO.out (s.getD k default) (by rw [List.getD_eq_getElem?_getD, List.getElem?_eq_getElem hlt]; exact List.getElem_mem hlt))
        unfold pickK at hxk
        rw [List.take_length, List.getElem?_map, List.getElem?_eq_getElem hlt] at hxk
        rw [List.getD_eq_getElem?_getD, List.getElem?_eq_getElem hlt] at hx2 ⊢
        simp only [Option.map_some, Option.some.injEq, Option.getD_some] at hxk hx2 ⊢
        rw [hx2] at hxk ⊢
        exact congrArg some hxk
      have hxX : x ∈ X ∧ keyL x = s.getD k default := by
        unfold findX at hxf
        rw [if_pos HCX.out] at hxf
        unfold findR at hxf
        exact ⟨List.mem_of_find?_eq_some hxf, by have := List.find?_some hxf; simpa using this⟩
      have hps : x.path.size ≤ maxLen := by have := (hq x hxX.1).path; unfold maxLen; omega
      have HXX := Lib.hid hxX
      clear hxf hxX
      have HMA := Lib.hid (HMF.out.alloc (.cells #[.string x.path, intC x.ver.1, intC x.ver.2.1, intC x.ver.2.2, .slice rr x.reqs.length rcap, .string x.ar, .string x.ifc, .string x.cert, .bool x.yk] 71))
      have hcl : w3.heap.size + 1 < wr.heap.size := (Array.getElem?_eq_some_iff.1 HC.out).1
      have HBA : Hid (Below w3.heap.size w3 (wr.alloc (.cells #[.string x.path, intC x.ver.1, intC x.ver.2.1, intC x.ver.2.2, .slice rr x.reqs.length rcap, .string x.ar, .string x.ifc, .string x.cert, .bool x.yk] 71))) := Lib.hid (HB.out.alloc HB.out.size _)
      have HCA : Hid ((wr.alloc (.cells #[.string x.path, intC x.ver.1, intC x.ver.2.1, intC x.ver.2.2, .slice rr x.reqs.length rcap, .string x.ar, .string x.ifc, .string x.cert, .bool x.yk] 71)).heap[w3.heap.size + 1]? = some (.cells #[.map (some w3.heap.size)] 171 (0, 0))) := Lib.hid (((belQ wr _).block _ hcl).trans HC.out)
      have HGX : Hid (G x (.slice rr x.reqs.length rcap)) := Lib.hid (by rw [← HG.out]; exact ⟨HXX.out.1, G9.out⟩)
      go_wp2_with (refine wpList_put_F rfl _ _ _ _ rfl 9 71 lawStr Tryz.underlying171 w3.heap.size k f (by rfl) HMA.out (by unfold maxLen; omega) _ _ (.string x.path.data.toList) rfl rfl (keyStr hps) ?_; intro W11 h11 g11; have HF11 : Hid (∃ f, MapF Tryz.prog 9 W11 w3.heap.size (k + 1) f ∧ SelF G (s.take (k + 1)) f) := Lib.hid ⟨_, h11, HSF.out.put hlt HXX.out.2 HGX.out⟩; have HB11 : Hid (Below w3.heap.size w3 W11) := Lib.hid (HBA.out.grown g11 HBA.out.size (fun b hb => by cases hb; exact Nat.le_refl _)); have HC11 : Hid (W11.heap[w3.heap.size + 1]? = some (.cells #[.map (some w3.heap.size)] 171 (0, 0))) := Lib.hid ((g11.block _ (by rw [World.size_alloc]; omega) (by simp)).trans HCA.out); clear h11 g11)
      go_roundw
      case rel => exact ⟨k + 1, by omega, by go_num, HF11, HB11, HC11⟩
      case measure => simp [intOf]; omega
end Go.Proofs.YtenfkejbndifdaaGreatDoor

namespace Go.Proofs.YtenfkejbndifdaaGreatDoor
set_option linter.unusedVariables false
set_option linter.unusedSimpArgs false
open Go Go.RowKit

set_option maxRecDepth 100000 in
theorem need34_any (p : ByteArray) (m : Int) (w : World) (hm : 0 ≤ m ∧ m ≤ 999) :
    Calls Tryz.prog 47 #[.string p, .int .i64 m] w fun e w' => ∃ sv, e = .returned (.agg #[.string p, sv]) ∧ SpansOf w'.heap.size sv [(1000 * m, 1000000)] w' ∧ Below w.heap.size w w' := by
  have hw1 : IntKind.i64.wrap (1000 * m) = 1000 * m := by rw [IntWalk.i64_in _ (by omega)]
  have hw2 : wrap64 (1000 * m) = 1000 * m := by unfold wrap64; omega
  have hbn := World.alloc_heap_new (w.alloc (.cells #[.string p, .slice (some ⟨w.heap.size + 1, 0, none⟩) 1 1] 58)) (.cells #[.int .i64 (1000 * m), .int .i64 1000000] 133)
  rw [World.size_alloc] at hbn
  have HN := Lib.hid hbn
  have HR : Hid (((w.alloc (.cells #[.string p, .slice (some ⟨w.heap.size + 1, 0, none⟩) 1 1] 58)).alloc (.cells #[.int .i64 (1000 * m), .int .i64 1000000] 133)).heap[w.heap.size]? = some (.cells #[.string p, .slice (some ⟨w.heap.size + 1, 0, none⟩) 1 1] 58 (0, 0))) := Lib.hid ((Below.heap_alloc _ _ _ (by simp)).trans (World.alloc_heap_new w _))
  clear hbn
  go_enter Tryz.func47, Tryz.ntmps47
  go_wp2_with fail
  refine bodyPost_ret (results_cell_row rfl _ _ w.heap.size _ _ _ _ rfl HR.out Tryz.underlying58 rfl (by kernel_rfl)) rfl ?_
  refine ⟨_, rfl, ⟨_, _, rfl, fun i x hx => ?_⟩, (by repeat (first | exact Below.refl _ _ | refine Below.drew ?_ | refine Below.alloc ?_ (by simp <;> omega) _ | refine Below.setCell ?_ (by simp <;> omega) _))⟩
  match i, hx with
  | 0, hx => cases hx; exact ⟨w.heap.size + 1, 0, rfl, by simp, cell_of_row _ _ 0 _ _ _ HN.out, cell_of_row _ _ 1 _ _ _ HN.out⟩
  | i + 1, hx => simp at hx
set_option maxRecDepth 100000 in
theorem rel34_any (p : ByteArray) (m : Int) (ra : Option Addr) (rn rc : Nat) (l : List ReqL) (w : World) :
    Calls Tryz.prog 46 #[.string p, .int .i64 m, .slice ra rn rc] w fun e w' => e = .returned (.agg (relC (exR p m l) (.slice ra rn rc))) ∧ Below w.heap.size w w' := by
  unfold relC exR
  simp only
  go_enter Tryz.func46, Tryz.ntmps46
  go_wp2_with fail
  refine bodyPost_ret (results_cell_row rfl _ _ w.heap.size _ _ _ _ rfl (World.alloc_heap_new w _) Tryz.underlying71 rfl (by kernel_rfl)) rfl ?_
  exact ⟨rfl, (by repeat (first | exact Below.refl _ _ | refine Below.drew ?_ | refine Below.alloc ?_ (by simp <;> omega) _ | refine Below.setCell ?_ (by simp <;> omega) _))⟩
set_option maxRecDepth 100000 in
set_option maxHeartbeats 4000000 in
theorem few34_any (a : Option Addr) (c : Nat) (iv rov : Value) (X : List RelL) (roots : List ReqL) (w : World) (hX : X.length ≤ 9223372036854775807) (hXr : ∀ x ∈ X, x.reqs.length ≤ 9223372036854775807) (hR : RelsOf w.heap.size (.slice a X.length c) X w)
    (hro : roots.length ≤ 9223372036854775807) (hRo : ReqsOf w.heap.size rov roots w) :
    Calls Tryz.prog 12 #[.agg #[.slice a X.length c, iv], rov] w fun e w' => ∃ b : Bool, e = .returned (.bool b) ∧ (b = true → FewR X 20 ∧ FewQ roots) ∧ Below w.heap.size w w' := by
  have HR := Lib.hid hR
  have HRo := Lib.hid hRo
  obtain ⟨ra, rc, rfl⟩ : ∃ ra rc, rov = .slice ra roots.length rc := by obtain ⟨a, c, e, _⟩ := hRo; exact ⟨a, c, e⟩
  clear hR hRo
  have HB0 : Hid (Below w.heap.size w (w.alloc (.cells #[.slice a X.length c, iv] 25))) := Lib.hid (belQ _ _)
  have HI0 : Hid ((w.alloc (.cells #[.slice a X.length c, iv] 25)).heap[w.heap.size]? = some (.cells #[.slice a X.length c, iv] 25 (0, 0))) := Lib.hid (World.alloc_heap_new w _)
  go_enter Tryz.func12, Tryz.ntmps12
  go_upto_region 1 with fail
  generalize w.alloc (.cells #[.slice a X.length c, iv] 25) = W at *
  have HF1 := Lib.hid (FewR_any (.slice a X.length c) X 20 W (by omega) hX hXr ((HR.out.below HB0.out (Nat.le_refl _)).mono HB0.out.size))
  have HF2 := Lib.hid (FewQ_any (.slice ra roots.length rc) roots W hro ((HRo.out.below HB0.out (Nat.le_refl _)).mono HB0.out.size))
  have c0 : W.cell? ⟨w.heap.size, 0, none⟩ = some (.slice a X.length c) := cell_of_row _ _ 0 _ _ _ HI0.out
  go_wp2_with fail
  refine HF1.out.mono ?_
  rintro e w2 ⟨b1, rfl, hb1, hww⟩
  obtain rfl : W = w2 := hww.symm
  cases b1 with
  | false =>
    go_wp2_with fail
    go_ret
    exact ⟨false, rfl, (fun h => by cases h), HB0.out⟩
  | true =>
    have HFR := Lib.hid (hb1 rfl)
    clear hb1
    go_wp2_with fail
    refine HF2.out.mono ?_
    rintro e w2 ⟨b2, rfl, hb2, hww⟩
    obtain rfl : W = w2 := hww.symm
    have HFQ := Lib.hid hb2
    clear hb2
    go_wp2_with fail
    go_ret
    exact ⟨b2, rfl, fun h => ⟨HFR.out, HFQ.out h⟩, HB0.out⟩
set_option maxRecDepth 100000 in
set_option maxHeartbeats 4000000 in
theorem satisfied_any (v iv rov sv : Value) (X : List RelL) (roots : List ReqL) (s : List SelL) (w : World) (hm : MaxOk w) (hX : X.length ≤ 1000000) (hq : ∀ x ∈ X, RelBd x) (hR : RelsOf w.heap.size v X w)
    (hro : roots.length ≤ 1000000) (hrq : ReqsBd roots) (hRo : ReqsOf w.heap.size rov roots w) (hs : s.length ≤ 1000000) (hy : ∀ y ∈ s, SelBd y) (hS : SelsOf w.heap.size sv s w) :
    Calls Tryz.prog 39 #[.agg #[v, iv], rov, sv] w fun e w' => ∃ b : Bool, e = .returned (.bool b) ∧ (b = true ↔ SatP X roots s) ∧ Below w.heap.size w w' := by
  have HSO := Lib.hid (fun W (hb : RowKit.Below w.heap.size w W) => Solves_any v iv rov sv X roots s W (hm.below hb hm.pos) hX hq (hR.on hb) hro hrq (hRo.on hb) hs hy (hS.on hb))
  obtain ⟨va, vn, vc, rfl⟩ : ∃ a n c, v = .slice a n c := by obtain ⟨a, c, _, e, _⟩ := hR.rv; exact ⟨_, _, _, e⟩
  obtain ⟨ra, rc, rfl⟩ : ∃ ra rc, rov = .slice ra roots.length rc := by obtain ⟨a, c, e, _⟩ := hRo; exact ⟨a, c, e⟩
  obtain ⟨sa, sc, rfl⟩ : ∃ sa sc, sv = .slice sa s.length sc := by obtain ⟨a, c, e, _⟩ := hS; exact ⟨a, c, e⟩
  clear hm hq hR hrq hRo hy hS
  have HB0 : Hid (Below w.heap.size w (w.alloc (.cells #[.slice va vn vc, iv] 25))) := Lib.hid (belQ _ _)
  have HI0 : Hid ((w.alloc (.cells #[.slice va vn vc, iv] 25)).heap[w.heap.size]? = some (.cells #[.slice va vn vc, iv] 25 (0, 0))) := Lib.hid (World.alloc_heap_new w _)
  go_enter Tryz.func39, Tryz.ntmps39
  go_upto_region 1 with fail
  generalize w.alloc (.cells #[.slice va vn vc, iv] 25) = W at *
  have c0 : W.cell? ⟨w.heap.size, 0, none⟩ = some (.slice va vn vc) := cell_of_row _ _ 0 _ _ _ HI0.out
  have c1 : W.cell? ⟨w.heap.size, 1, none⟩ = some iv := cell_of_row _ _ 1 _ _ _ HI0.out
  go_wp2_with fail
  refine (HSO.out _ HB0.out).mono ?_
  rintro e w2 ⟨hb2, E, rfl, he, _⟩
  have HB2 := Lib.hid (HB0.out.trans (hb2.mono HB0.out.size))
  have HE := Lib.hid he
  clear hb2 he c0 c1 HSO
  by_cases h0 : E = 0
  · subst h0
    go_wp2_with fail
    go_ret
    exact ⟨true, rfl, ⟨fun _ => HE.out.1 (by simp), fun _ => by trivial⟩, HB2.out⟩
  · have h0b : (E == 0) = false := by simpa using h0
    by_cases h8 : E = 8
    · subst h8
      go_wp2_with fail
      go_ret
      exact ⟨true, rfl, ⟨fun _ => HE.out.1 (by simp), fun _ => by trivial⟩, HB2.out⟩
    · have h8b : (E == 8) = false := by simpa using h8
      go_wp2_with fail
      go_ret
      exact ⟨false, rfl, ⟨(fun h => by cases h), fun h => absurd (HE.out.2 h) (fun e => e.elim h0 h8)⟩, HB2.out⟩
end Go.Proofs.YtenfkejbndifdaaGreatDoor
