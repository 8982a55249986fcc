/- The laws' least and growing. The laws' growing, and the closures that compare the places of a path. -/
import Derived.Test.YtenfkejbndifdaaGreatDoorVI
import Derived.Test.YtenfkejbndifdaaGreatDoorVJ
namespace Go.Proofs.YtenfkejbndifdaaGreatDoor
set_option linter.unusedVariables false
set_option linter.unusedSimpArgs false
open Go Go.RowKit

theorem leastS_hit {s : List SelL} {p : ByteArray} {k : Nat} (hk : k < s.length) (h : ∀ j, j < k → (s.getD j default).1 ≠ p) (he : (s.getD k default).1 = p) : leastS s p = plc (s.getD k default).2 := by
  have hg : ∀ i (hi : i < s.length), s.getD i default = s[i] := fun i hi => by rw [List.getD_eq_getElem?_getD, List.getElem?_eq_getElem hi]; rfl
  unfold leastS
  rw [find_at hk (fun x hx => ?_) (by rw [← hg k hk]; exact decide_eq_true he), hg k hk]
  obtain ⟨j, hj, rfl⟩ := List.mem_iff_getElem.1 hx
  rw [List.length_take] at hj
  rw [List.getElem_take, ← hg j (by omega)]
  exact decide_eq_false (h j (by omega))
theorem leastS_miss {s : List SelL} {p : ByteArray} (h : ∀ j, j < s.length → (s.getD j default).1 ≠ p) : leastS s p = -1 := by
  unfold leastS
  rw [List.find?_eq_none.2 fun x hx => ?_]
  obtain ⟨j, hj, rfl⟩ := List.mem_iff_getElem.1 hx
  have := h j hj
  rw [List.getD_eq_getElem?_getD, List.getElem?_eq_getElem hj] at this
  simpa using this
set_option maxRecDepth 100000 in
set_option maxHeartbeats 4000000 in
theorem least34_any (v : Value) (s : List SelL) (p : ByteArray) (w : World) (hs : s.length ≤ 1000000) (hv : ∀ y ∈ s, validB y.2.1 y.2.2.1 y.2.2.2 = true) (hS : SelsOf w.heap.size v s w) :
    Calls Tryz.prog 38 #[v, .string p] w fun e w' => e = .returned (.int .i64 (leastS s p)) ∧ Below w.heap.size w w' := by
  have HS := Lib.hid hS
  have HV := Lib.hid hv
  obtain ⟨R, hR⟩ : ∃ R, leastS s p = R := ⟨_, rfl⟩
  have HR := Lib.hid hR
  rw [hR]
  obtain ⟨sa, sc, rfl⟩ : ∃ sa sc, v = .slice sa s.length sc := by obtain ⟨a, c, e, _⟩ := hS; exact ⟨a, c, e⟩
  clear hS hv hR
  go_enter Tryz.func38, Tryz.ntmps38
  go_wp2_with fail
  go_loopw [11] (fun q wr => Hid (∃ k : Nat, k ≤ s.length ∧ q = .int .i64 (k : Int) ∧ Below w.heap.size w wr ∧ ∀ j, j < k → (s.getD j default).1 ≠ p)) (fun q _ => s.length - (intOf q).toNat)
  case atStart => exact Lib.hid ⟨0, Nat.zero_le _, rfl, Below.refl _ _, fun j hj => absurd hj (Nat.not_lt_zero _)⟩
  case round =>
    obtain ⟨k, hk, rfl, hw, hn⟩ := hrel.out
    have HW := Lib.hid hw
    have HN := Lib.hid hn
    clear hrel hw hn
    by_cases hlk : k < s.length
    case neg =>
      have hkk : k = s.length := Nat.le_antisymm hk (Nat.le_of_not_lt hlk)
      subst hkk
      have HRM : Hid (R = -1) := Lib.hid (HR.out.symm.trans (leastS_miss HN.out))
      go_wp2_with fail
      go_ret
      exact ⟨by rw [HRM.out]; rfl, HW.out⟩
    case pos =>
      obtain ⟨ab, ao, rfl, hab, a0, a1, a2, a3⟩ := HS.out.at hlk
      have a0 := (HW.out.cell (p := ⟨ab, ao + k * 4, none⟩) hab).trans a0
      have a1 := (HW.out.cell (p := ⟨ab, ao + k * 4 + 1, none⟩) hab).trans a1
      have a2 := (HW.out.cell (p := ⟨ab, ao + k * 4 + 2, none⟩) hab).trans a2
      have a3 := (HW.out.cell (p := ⟨ab, ao + k * 4 + 3, none⟩) hab).trans a3
      have hk1 : (0 : Int) ≤ (k : Int) := Int.natCast_nonneg k
      have hk2 : (k : Int) < (s.length : Int) := Int.ofNat_lt.2 hlk
      have HVK := Lib.hid (HV.out _ (show s.getD k default ∈ s by rw [List.getD_eq_getElem?_getD, List.getElem?_eq_getElem hlk]; exact List.getElem_mem hlk))
      have HHIT := Lib.hid (leastS_hit (p := p) hlk HN.out)
      have HMISS : Hid ((s.getD k default).1 ≠ p → ∀ j, j < k + 1 → (s.getD j default).1 ≠ p) := Lib.hid (fun h j hj => by
        rcases Nat.lt_or_eq_of_le (Nat.le_of_lt_succ hj) with h1 | rfl
        · exact HN.out j h1
        · exact h)
      generalize s.getD k default = x at *
      have HXA := Lib.hid (show SelBox (wr.alloc (.cells #[.string x.1, .int .i64 x.2.1, .int .i64 x.2.2.1, .int .i64 x.2.2.2] 43)) wr.heap.size x from World.alloc_heap_new wr _)
      have HBA := Lib.hid (HW.out.trans ((belQ wr (.cells #[.string x.1, .int .i64 x.2.1, .int .i64 x.2.2.1, .int .i64 x.2.2.2] 43)).mono HW.out.size))
      go_upto_region 4 with fail
      generalize wr.alloc (.cells #[.string x.1, .int .i64 x.2.1, .int .i64 x.2.2.1, .int .i64 x.2.2.2] 43) = WA at *
      generalize wr.heap.size = gx at *
      clear a0 a1 a2 a3
      have x0 : WA.cell? ⟨gx, 0, none⟩ = some (.string x.1) := cell_of_row _ _ 0 _ _ _ HXA.out
      have x1 : WA.cell? ⟨gx, 1, none⟩ = some (.int .i64 x.2.1) := cell_of_row _ _ 1 _ _ _ HXA.out
      have x2 : WA.cell? ⟨gx, 2, none⟩ = some (.int .i64 x.2.2.1) := cell_of_row _ _ 2 _ _ _ HXA.out
      have x3 : WA.cell? ⟨gx, 3, none⟩ = some (.int .i64 x.2.2.2) := cell_of_row _ _ 3 _ _ _ HXA.out
      by_cases hp : x.1 = p
      case neg =>
        have hq : (x.1.toList == p.toList) = false := by rw [eqs_dec]; exact decide_eq_false hp
        have HM2 := Lib.hid (HMISS.out hp)
        clear hp
        go_wp2_with fail
        go_roundw
        case rel => exact Lib.hid ⟨k + 1, hlk, by go_num, HBA.out, HM2.out⟩
        case measure => simp [intOf]; omega
      case pos =>
        have HRH : Hid (R = plc x.2) := Lib.hid (HR.out.symm.trans (HHIT.out hp))
        have hq : (x.1.toList == p.toList) = true := by rw [eqs_dec]; exact decide_eq_true hp
        clear hp HHIT HMISS
        have HP := Lib.hid (Place_any x.2.1 x.2.2.1 x.2.2.2 WA)
        rw [show placeV x.2.1 x.2.2.1 x.2.2.2 = (plc x.2, 0) by unfold placeV plc; rw [if_pos HVK.out]] at HP
        rw [← HRH.out] at HP
        go_wp2_with fail
        refine HP.out.mono ?_
        rintro e w1 ⟨rfl, hb1⟩
        have HB1 := Lib.hid (HBA.out.trans (hb1.mono HBA.out.size))
        clear hb1
        go_wp2_with fail
        go_ret
        exact ⟨rfl, HB1.out⟩
def growB (q p : ReqL) : Bool := decide (p.1 = q.1) && subB p.2 q.2
set_option maxRecDepth 100000 in
set_option maxHeartbeats 4000000 in
theorem growing1_any (q p : ReqL) (g : Nat) (rq rp : Value) (W : World) (hp : p.2.length ≤ 40000) (hq : q.2.length ≤ 40000) (hg : W.heap[g]? = some (.cells #[.string q.1, rq] 58 (0, 0))) (hQ : SpansOf W.heap.size rq q.2 W) (hP : SpansOf W.heap.size rp p.2 W) :
    Calls Tryz.prog 98 #[.agg #[.string p.1, rp], .pointer (some ⟨g, 0, none⟩)] W fun e w' => e = .returned (.bool (growB q p)) ∧ Below W.heap.size W w' := by
  have HSU := Lib.hid (fun W' (hb : Below W.heap.size W W') => Subset_any rp rq p.2 q.2 W' hp hq (hP.on hb) (hQ.on hb))
  have hgl := (Array.getElem?_eq_some_iff.1 hg).1
  have HG := Lib.hid hg
  obtain ⟨a, c, rfl, _⟩ := hP
  obtain ⟨a2, c2, rfl, _⟩ := hQ
  unfold growB
  generalize subB p.2 q.2 = sb at *
  clear hg hp hq
  have HB0 := Lib.hid (belQ W (.cells #[.string p.1, .slice a p.2.length c] 58))
  have HN := Lib.hid (World.alloc_heap_new W (.cells #[.string p.1, .slice a p.2.length c] 58))
  go_enter Tryz.func98, Tryz.ntmps98
  go_upto_region 1 with fail
  generalize W.alloc (.cells #[.string p.1, .slice a p.2.length c] 58) = W1 at *
  have p0 : W1.cell? ⟨W.heap.size, 0, none⟩ = some (.string p.1) := cell_of_row _ _ 0 _ _ _ HN.out
  have p1 : W1.cell? ⟨W.heap.size, 1, none⟩ = some (.slice a p.2.length c) := cell_of_row _ _ 1 _ _ _ HN.out
  have q0 : W1.cell? ⟨g, 0, none⟩ = some (.string q.1) := cell_of_row _ _ 0 _ _ _ ((HB0.out.block g hgl).trans HG.out)
  have q1 : W1.cell? ⟨g, 1, none⟩ = some (.slice a2 q.2.length c2) := cell_of_row _ _ 1 _ _ _ ((HB0.out.block g hgl).trans HG.out)
  by_cases he : p.1 = q.1
  case neg =>
    have hpb : (p.1.toList == q.1.toList) = false := by rw [eqs_dec]; exact decide_eq_false he
    have HE := Lib.hid he
    clear he
    go_wp2_with fail
    go_ret
    exact ⟨by rw [decide_eq_false HE.out]; rfl, HB0.out⟩
  case pos =>
    have hpb : (p.1.toList == q.1.toList) = true := by rw [eqs_dec]; exact decide_eq_true he
    have HE := Lib.hid he
    clear he
    go_wp2_with fail
    refine (HSU.out W1 HB0.out).mono ?_
    rintro e w1 ⟨rfl, hb1⟩
    have HB1 := Lib.hid (HB0.out.trans (hb1.mono HB0.out.size))
    clear hb1
    go_wp2_with fail
    go_ret
    exact ⟨by rw [decide_eq_true HE.out, Bool.true_and]; rfl, HB1.out⟩
end Go.Proofs.YtenfkejbndifdaaGreatDoor

namespace Go.Proofs.YtenfkejbndifdaaGreatDoor
set_option linter.unusedVariables false
set_option linter.unusedSimpArgs false
open Go Go.RowKit

def HeldL (ga gb gy : Nat) (va vb : Value) (p : ByteArray) (W : World) : Prop := W.cell? ⟨ga, 0, none⟩ = some va ∧ W.cell? ⟨gb, 0, none⟩ = some vb ∧ W.cell? ⟨gy, 0, none⟩ = some (.string p)
set_option maxRecDepth 100000 in
set_option maxHeartbeats 4000000 in
theorem leastLt_any (ga gb : Nat) (va vb : Value) (a b : List SelL) (y : SelL) (W : World) (ha : a.length ≤ 1000000) (hb : b.length ≤ 1000000) (hva : ∀ y ∈ a, validB y.2.1 y.2.2.1 y.2.2.2 = true) (hvb : ∀ y ∈ b, validB y.2.1 y.2.2.1 y.2.2.2 = true)
    (hA : SelsOf W.heap.size va a W) (hB : SelsOf W.heap.size vb b W) (h1 : W.heap[ga]? = some (.cells #[va] 27 (0, 0))) (h2 : W.heap[gb]? = some (.cells #[vb] 27 (0, 0))) :
    Calls Tryz.prog 45 (#[.agg #[.string y.1, intC y.2.1, intC y.2.2.1, intC y.2.2.2]] ++ #[.pointer (some ⟨ga, 0, none⟩), .pointer (some ⟨gb, 0, none⟩)]) W fun e w' => e = .returned (.bool (decide (leastS a y.1 < leastS b y.1))) ∧ Below W.heap.size W w' := by
  show Calls _ _ #[.agg #[.string y.1, intC y.2.1, intC y.2.2.1, intC y.2.2.2], .pointer (some ⟨ga, 0, none⟩), .pointer (some ⟨gb, 0, none⟩)] _ _
  have HLA := Lib.hid (fun W' (h : Below W.heap.size W W') => least34_any va a y.1 W' ha hva (hA.on h))
  have HLB := Lib.hid (fun W' (h : Below W.heap.size W W') => least34_any vb b y.1 W' hb hvb (hB.on h))
  have hga := (Array.getElem?_eq_some_iff.1 h1).1
  have hgb := (Array.getElem?_eq_some_iff.1 h2).1
  have H1 := Lib.hid h1
  have H2 := Lib.hid h2
  obtain ⟨aa, ac, rfl⟩ : ∃ x c, va = .slice x a.length c := by obtain ⟨x, c, e, _⟩ := hA; exact ⟨x, c, e⟩
  obtain ⟨ba, bc, rfl⟩ : ∃ x c, vb = .slice x b.length c := by obtain ⟨x, c, e, _⟩ := hB; exact ⟨x, c, e⟩
  generalize leastS a y.1 = la at *
  generalize leastS b y.1 = lb at *
  clear ha hb hva hvb hA hB h1 h2
  have HB0 := Lib.hid (belQ W (.cells #[.string y.1, intC y.2.1, intC y.2.2.1, intC y.2.2.2] 43))
  have HN := Lib.hid (World.alloc_heap_new W (.cells #[.string y.1, intC y.2.1, intC y.2.2.1, intC y.2.2.2] 43))
  have HSB : Hid (∀ W', Below (W.alloc (.cells #[.string y.1, intC y.2.1, intC y.2.2.1, intC y.2.2.2] 43)).heap.size (W.alloc (.cells #[.string y.1, intC y.2.1, intC y.2.2.1, intC y.2.2.2] 43)) W' → HeldL ga gb W.heap.size (.slice aa a.length ac) (.slice ba b.length bc) y.1 W') := Lib.hid (fun W' h => by
    refine ⟨(h.cell (p := ⟨ga, 0, none⟩) (by simp; omega)).trans (cell_of_row _ _ 0 _ _ _ ((HB0.out.block ga hga).trans H1.out)), (h.cell (p := ⟨gb, 0, none⟩) (by simp; omega)).trans (cell_of_row _ _ 0 _ _ _ ((HB0.out.block gb hgb).trans H2.out)), (h.cell (p := ⟨W.heap.size, 0, none⟩) (by simp)).trans (cell_of_row _ _ 0 _ _ _ HN.out)⟩)
  go_enter Tryz.func45, Tryz.ntmps45
  go_upto_region 1 with fail
  generalize W.alloc (.cells #[.string y.1, intC y.2.1, intC y.2.2.1, intC y.2.2.2] 43) = W1 at *
  refine wp_region_noPanic ?_
  refine wp_region_held_drew (S := HeldL ga gb W.heap.size (.slice aa a.length ac) (.slice ba b.length bc) y.1) (by kernel_rfl) (HSB.out _ (Below.refl _ _).drew) (fun hS0 => ?_)
  (refine wpAnyH_take (i := 0) (v := ?_) rfl (by kernel_rfl) (by kernel_rfl) (by kernel_rfl) (fun _ _ _ h => h) (Or.inl ⟨by rfl, ?_⟩) (by assumption) ?_; rotate_left; (· (intro w hSw; obtain ⟨x0, x1, x2⟩ := hSw; go_simp; try with_reducible rfl)); (try simp only [zl1, zl2, zl3, Act.put, zl4, zl5, zl6]))
  (refine wpAnyH_take (i := 1) (v := ?_) rfl (by kernel_rfl) (by kernel_rfl) (by kernel_rfl) (fun _ _ _ h => h) (Or.inl ⟨by rfl, ?_⟩) (by assumption) ?_; rotate_left; (· (intro w hSw; obtain ⟨x0, x1, x2⟩ := hSw; go_simp; try with_reducible rfl)); (try simp only [zl1, zl2, zl3, Act.put, zl4, zl5, zl6]))
  (refine wpAnyH_take (i := 2) (v := ?_) rfl (by kernel_rfl) (by kernel_rfl) (by kernel_rfl) (fun _ _ _ h => h) (Or.inl ⟨by rfl, ?_⟩) (by assumption) ?_; rotate_left; (· (intro w hSw; obtain ⟨x0, x1, x2⟩ := hSw; go_simp; try with_reducible rfl)); (try simp only [zl1, zl2, zl3, Act.put, zl4, zl5, zl6]))
  (refine wpAnyH_take (i := 4) (v := ?_) rfl (by kernel_rfl) (by kernel_rfl) (by kernel_rfl) (fun _ _ _ h => h) (Or.inl ⟨by rfl, ?_⟩) (by assumption) ?_; rotate_left; (· (intro w hSw; obtain ⟨x0, x1, x2⟩ := hSw; go_simp; try with_reducible rfl)); (try simp only [zl1, zl2, zl3, Act.put, zl4, zl5, zl6]))
  (refine wpAnyH_take (i := 5) (v := ?_) rfl (by kernel_rfl) (by kernel_rfl) (by kernel_rfl) (fun _ _ _ h => h) (Or.inl ⟨by rfl, ?_⟩) (by assumption) ?_; rotate_left; (· (intro w hSw; obtain ⟨x0, x1, x2⟩ := hSw; go_simp; try with_reducible rfl)); (try simp only [zl1, zl2, zl3, Act.put, zl4, zl5, zl6]))
  (refine wpAnyH_take (i := 6) (v := ?_) rfl (by kernel_rfl) (by kernel_rfl) (by kernel_rfl) (fun _ _ _ h => h) (Or.inl ⟨by rfl, ?_⟩) (by assumption) ?_; rotate_left; (· (intro w hSw; obtain ⟨x0, x1, x2⟩ := hSw; go_simp; try with_reducible rfl)); (try simp only [zl1, zl2, zl3, Act.put, zl4, zl5, zl6]))
  refine wpAnyH_ready (rs := [3]) (by kernel_rfl) (by simp) (AllReadyH.cons rfl (fun K hK => ?_) AllReadyH.nil)
  go_simp
  refine (HLA.out _ (HB0.out.trans ((Below.refl W1.heap.size W1).drew.mono HB0.out.size))).mono ?_
  rintro e w2 ⟨rfl, hbw2⟩
  have HBw2 := Lib.hid (((Below.refl W1.heap.size W1).drew).trans (hbw2.mono ((Below.refl W1.heap.size W1).drew).size))
  clear hS0
  have hS0 := HSB.out _ HBw2.out
  refine hK.out _ _ hS0 (fun _ => ?_)
  clear hK K hbw2
  (try simp only [zl1, zl2, zl3, Act.put, zl4, zl5, zl6])
  refine wpAnyH_ready (rs := [7]) (by kernel_rfl) (by simp) (AllReadyH.cons rfl (fun K hK => ?_) AllReadyH.nil)
  go_simp
  refine (HLB.out _ (HB0.out.trans (HBw2.out.mono HB0.out.size))).mono ?_
  rintro e w3 ⟨rfl, hbw3⟩
  have HBw3 := Lib.hid ((HBw2.out).trans (hbw3.mono (HBw2.out).size))
  clear hS0
  have hS0 := HSB.out _ HBw3.out
  refine hK.out _ _ hS0 (fun _ => ?_)
  clear hK K hbw3
  (try simp only [zl1, zl2, zl3, Act.put, zl4, zl5, zl6])
  (refine wpAnyH_take (i := 8) (v := ?_) rfl (by kernel_rfl) (by kernel_rfl) (by kernel_rfl) (fun _ _ _ h => h) (Or.inl ⟨by rfl, ?_⟩) (by assumption) ?_; rotate_left; (· (intro w hSw; obtain ⟨x0, x1, x2⟩ := hSw; go_simp; try with_reducible rfl)); (try simp only [zl1, zl2, zl3, Act.put, zl4, zl5, zl6]))
  (refine wpAnyH_take (i := 9) (v := ?_) rfl (by kernel_rfl) (by kernel_rfl) (by kernel_rfl) (fun _ _ _ h => h) (Or.inl ⟨by rfl, ?_⟩) (by assumption) ?_; rotate_left; (· (intro w hSw; obtain ⟨x0, x1, x2⟩ := hSw; go_simp; try with_reducible rfl)); (try simp only [zl1, zl2, zl3, Act.put, zl4, zl5, zl6]))
  refine wpAnyH_done (by kernel_rfl) ?_ _
  refine NoPanic.normal ?_
  go_wp2_with fail
  go_ret
  exact ⟨rfl, HB0.out.trans (HBw3.out.mono HB0.out.size)⟩
set_option maxRecDepth 100000 in
set_option maxHeartbeats 4000000 in
theorem monoLt_any (ga gb : Nat) (va vb : Value) (a b : List SelL) (y : SelL) (W : World) (ha : a.length ≤ 1000000) (hb : b.length ≤ 1000000) (hva : ∀ y ∈ a, validB y.2.1 y.2.2.1 y.2.2.2 = true) (hvb : ∀ y ∈ b, validB y.2.1 y.2.2.1 y.2.2.2 = true)
    (hA : SelsOf W.heap.size va a W) (hB : SelsOf W.heap.size vb b W) (h1 : W.heap[ga]? = some (.cells #[va] 27 (0, 0))) (h2 : W.heap[gb]? = some (.cells #[vb] 27 (0, 0))) :
    Calls Tryz.prog 37 (#[.agg #[.string y.1, intC y.2.1, intC y.2.2.1, intC y.2.2.2]] ++ #[.pointer (some ⟨ga, 0, none⟩), .pointer (some ⟨gb, 0, none⟩)]) W fun e w' => e = .returned (.bool (decide (leastS a y.1 < leastS b y.1))) ∧ Below W.heap.size W w' := by
  show Calls _ _ #[.agg #[.string y.1, intC y.2.1, intC y.2.2.1, intC y.2.2.2], .pointer (some ⟨ga, 0, none⟩), .pointer (some ⟨gb, 0, none⟩)] _ _
  have HLA := Lib.hid (fun W' (h : Below W.heap.size W W') => least34_any va a y.1 W' ha hva (hA.on h))
  have HLB := Lib.hid (fun W' (h : Below W.heap.size W W') => least34_any vb b y.1 W' hb hvb (hB.on h))
  have hga := (Array.getElem?_eq_some_iff.1 h1).1
  have hgb := (Array.getElem?_eq_some_iff.1 h2).1
  have H1 := Lib.hid h1
  have H2 := Lib.hid h2
  obtain ⟨aa, ac, rfl⟩ : ∃ x c, va = .slice x a.length c := by obtain ⟨x, c, e, _⟩ := hA; exact ⟨x, c, e⟩
  obtain ⟨ba, bc, rfl⟩ : ∃ x c, vb = .slice x b.length c := by obtain ⟨x, c, e, _⟩ := hB; exact ⟨x, c, e⟩
  generalize leastS a y.1 = la at *
  generalize leastS b y.1 = lb at *
  clear ha hb hva hvb hA hB h1 h2
  have HB0 := Lib.hid (belQ W (.cells #[.string y.1, intC y.2.1, intC y.2.2.1, intC y.2.2.2] 43))
  have HN := Lib.hid (World.alloc_heap_new W (.cells #[.string y.1, intC y.2.1, intC y.2.2.1, intC y.2.2.2] 43))
  have HSB : Hid (∀ W', Below (W.alloc (.cells #[.string y.1, intC y.2.1, intC y.2.2.1, intC y.2.2.2] 43)).heap.size (W.alloc (.cells #[.string y.1, intC y.2.1, intC y.2.2.1, intC y.2.2.2] 43)) W' → HeldL ga gb W.heap.size (.slice aa a.length ac) (.slice ba b.length bc) y.1 W') := Lib.hid (fun W' h => by
    refine ⟨(h.cell (p := ⟨ga, 0, none⟩) (by simp; omega)).trans (cell_of_row _ _ 0 _ _ _ ((HB0.out.block ga hga).trans H1.out)), (h.cell (p := ⟨gb, 0, none⟩) (by simp; omega)).trans (cell_of_row _ _ 0 _ _ _ ((HB0.out.block gb hgb).trans H2.out)), (h.cell (p := ⟨W.heap.size, 0, none⟩) (by simp)).trans (cell_of_row _ _ 0 _ _ _ HN.out)⟩)
  go_enter Tryz.func37, Tryz.ntmps37
  go_upto_region 1 with fail
  generalize W.alloc (.cells #[.string y.1, intC y.2.1, intC y.2.2.1, intC y.2.2.2] 43) = W1 at *
  refine wp_region_noPanic ?_
  refine wp_region_held_drew (S := HeldL ga gb W.heap.size (.slice aa a.length ac) (.slice ba b.length bc) y.1) (by kernel_rfl) (HSB.out _ (Below.refl _ _).drew) (fun hS0 => ?_)
  (refine wpAnyH_take (i := 0) (v := ?_) rfl (by kernel_rfl) (by kernel_rfl) (by kernel_rfl) (fun _ _ _ h => h) (Or.inl ⟨by rfl, ?_⟩) (by assumption) ?_; rotate_left; (· (intro w hSw; obtain ⟨x0, x1, x2⟩ := hSw; go_simp; try with_reducible rfl)); (try simp only [zl1, zl2, zl3, Act.put, zl4, zl5, zl6]))
  (refine wpAnyH_take (i := 1) (v := ?_) rfl (by kernel_rfl) (by kernel_rfl) (by kernel_rfl) (fun _ _ _ h => h) (Or.inl ⟨by rfl, ?_⟩) (by assumption) ?_; rotate_left; (· (intro w hSw; obtain ⟨x0, x1, x2⟩ := hSw; go_simp; try with_reducible rfl)); (try simp only [zl1, zl2, zl3, Act.put, zl4, zl5, zl6]))
  (refine wpAnyH_take (i := 2) (v := ?_) rfl (by kernel_rfl) (by kernel_rfl) (by kernel_rfl) (fun _ _ _ h => h) (Or.inl ⟨by rfl, ?_⟩) (by assumption) ?_; rotate_left; (· (intro w hSw; obtain ⟨x0, x1, x2⟩ := hSw; go_simp; try with_reducible rfl)); (try simp only [zl1, zl2, zl3, Act.put, zl4, zl5, zl6]))
  (refine wpAnyH_take (i := 4) (v := ?_) rfl (by kernel_rfl) (by kernel_rfl) (by kernel_rfl) (fun _ _ _ h => h) (Or.inl ⟨by rfl, ?_⟩) (by assumption) ?_; rotate_left; (· (intro w hSw; obtain ⟨x0, x1, x2⟩ := hSw; go_simp; try with_reducible rfl)); (try simp only [zl1, zl2, zl3, Act.put, zl4, zl5, zl6]))
  (refine wpAnyH_take (i := 5) (v := ?_) rfl (by kernel_rfl) (by kernel_rfl) (by kernel_rfl) (fun _ _ _ h => h) (Or.inl ⟨by rfl, ?_⟩) (by assumption) ?_; rotate_left; (· (intro w hSw; obtain ⟨x0, x1, x2⟩ := hSw; go_simp; try with_reducible rfl)); (try simp only [zl1, zl2, zl3, Act.put, zl4, zl5, zl6]))
  (refine wpAnyH_take (i := 6) (v := ?_) rfl (by kernel_rfl) (by kernel_rfl) (by kernel_rfl) (fun _ _ _ h => h) (Or.inl ⟨by rfl, ?_⟩) (by assumption) ?_; rotate_left; (· (intro w hSw; obtain ⟨x0, x1, x2⟩ := hSw; go_simp; try with_reducible rfl)); (try simp only [zl1, zl2, zl3, Act.put, zl4, zl5, zl6]))
  refine wpAnyH_ready (rs := [3]) (by kernel_rfl) (by simp) (AllReadyH.cons rfl (fun K hK => ?_) AllReadyH.nil)
  go_simp
  refine (HLA.out _ (HB0.out.trans ((Below.refl W1.heap.size W1).drew.mono HB0.out.size))).mono ?_
  rintro e w2 ⟨rfl, hbw2⟩
  have HBw2 := Lib.hid (((Below.refl W1.heap.size W1).drew).trans (hbw2.mono ((Below.refl W1.heap.size W1).drew).size))
  clear hS0
  have hS0 := HSB.out _ HBw2.out
  refine hK.out _ _ hS0 (fun _ => ?_)
  clear hK K hbw2
  (try simp only [zl1, zl2, zl3, Act.put, zl4, zl5, zl6])
  refine wpAnyH_ready (rs := [7]) (by kernel_rfl) (by simp) (AllReadyH.cons rfl (fun K hK => ?_) AllReadyH.nil)
  go_simp
  refine (HLB.out _ (HB0.out.trans (HBw2.out.mono HB0.out.size))).mono ?_
  rintro e w3 ⟨rfl, hbw3⟩
  have HBw3 := Lib.hid ((HBw2.out).trans (hbw3.mono (HBw2.out).size))
  clear hS0
  have hS0 := HSB.out _ HBw3.out
  refine hK.out _ _ hS0 (fun _ => ?_)
  clear hK K hbw3
  (try simp only [zl1, zl2, zl3, Act.put, zl4, zl5, zl6])
  (refine wpAnyH_take (i := 8) (v := ?_) rfl (by kernel_rfl) (by kernel_rfl) (by kernel_rfl) (fun _ _ _ h => h) (Or.inl ⟨by rfl, ?_⟩) (by assumption) ?_; rotate_left; (· (intro w hSw; obtain ⟨x0, x1, x2⟩ := hSw; go_simp; try with_reducible rfl)); (try simp only [zl1, zl2, zl3, Act.put, zl4, zl5, zl6]))
  (refine wpAnyH_take (i := 9) (v := ?_) rfl (by kernel_rfl) (by kernel_rfl) (by kernel_rfl) (fun _ _ _ h => h) (Or.inl ⟨by rfl, ?_⟩) (by assumption) ?_; rotate_left; (· (intro w hSw; obtain ⟨x0, x1, x2⟩ := hSw; go_simp; try with_reducible rfl)); (try simp only [zl1, zl2, zl3, Act.put, zl4, zl5, zl6]))
  refine wpAnyH_done (by kernel_rfl) ?_ _
  refine NoPanic.normal ?_
  go_wp2_with fail
  go_ret
  exact ⟨rfl, HB0.out.trans (HBw3.out.mono HB0.out.size)⟩
theorem growB_any (q : ReqL) (l : List ReqL) : l.any (growB q) = true ↔ ∃ p ∈ l, p.1 = q.1 ∧ subB p.2 q.2 = true := by
  rw [List.any_eq_true]
  unfold growB
  simp only [Bool.and_eq_true, decide_eq_true_eq]
theorem grow_pred (q : ReqL) (l : List ReqL) (g : Nat) (rq : Value) (w : World) (hl : ∀ p ∈ l, p.2.length ≤ 40000) (hq : q.2.length ≤ 40000) (hg : w.heap[g]? = some (.cells #[.string q.1, rq] 58 (0, 0))) (hQ : SpansOf w.heap.size rq q.2 w) :
    PredQ 98 #[.pointer (some ⟨g, 0, none⟩)] l (growB q) w := fun W p r hp hb hS =>
  (growing1_any q p g rq r W (hl p hp) hq ((hb.block g (Array.getElem?_eq_some_iff.1 hg).1).trans hg) (hQ.on hb) hS).mono fun e w' h => ⟨h.1, hb.trans (h.2.mono hb.size)⟩
def GrowK (X : List RelL) (k : Nat) : Prop := ∀ i, i + 1 < k → (X.getD i default).path = (X.getD (i + 1) default).path → ∀ q ∈ (X.getD i default).reqs, ∃ p ∈ (X.getD (i + 1) default).reqs, p.1 = q.1 ∧ subB p.2 q.2 = true
theorem GrowK.one (X : List RelL) : GrowK X 1 := fun i hi => by omega
theorem GrowK.skip {X : List RelL} {k : Nat} (h : GrowK X k) (hk : 1 ≤ k) (hne : (X.getD (k - 1) default).path ≠ (X.getD k default).path) : GrowK X (k + 1) := fun i hi e => by
  by_cases h2 : i + 1 < k
  · exact h i h2 e
  · have h3 : i = k - 1 := by omega
    subst h3
    rw [show k - 1 + 1 = k by omega] at e
    exact absurd e hne
theorem GrowK.step {X : List RelL} {k : Nat} (h : GrowK X k) (hk : 1 ≤ k) (hn : ∀ q ∈ (X.getD (k - 1) default).reqs, ∃ p ∈ (X.getD k default).reqs, p.1 = q.1 ∧ subB p.2 q.2 = true) : GrowK X (k + 1) := fun i hi e q hq => by
  by_cases h2 : i + 1 < k
  · exact h i h2 e q hq
  · have h3 : i = k - 1 := by omega
    subst h3
    rw [show k - 1 + 1 = k by omega]
    exact hn q hq
theorem GrowK.all {X : List RelL} {k : Nat} (h : GrowK X k) (hk : X.length ≤ k) : GrowP X := fun i hi => h i (by omega)
theorem GrowP.not {X : List RelL} {k : Nat} (hk1 : 1 ≤ k) (hk : k < X.length) (he : (X.getD (k - 1) default).path = (X.getD k default).path) {q : ReqL} (hq : q ∈ (X.getD (k - 1) default).reqs) (hn : (X.getD k default).reqs.any (growB q) = false) : ¬ GrowP X := fun h => by
  have e : k - 1 + 1 = k := by omega
  have := h (k - 1) (by omega) (by rw [e]; exact he) q hq
  rw [e, ← growB_any, hn] at this
  cases this
theorem wrap_pre1 {k n : Nat} (h1 : 1 ≤ k) (h : k < n) (hn : n ≤ 1000000) : wrap64 ((k : Int) - 1) = ((k - 1 : Nat) : Int) := by unfold wrap64; omega
theorem two_boxes (W : World) (x y : RelL) (r t : Value) : BoxR (((W.alloc (.cells (relC x r) 71)).alloc (.cells (relC y t) 71)).drew) W.heap.size x r ∧ BoxR (((W.alloc (.cells (relC x r) 71)).alloc (.cells (relC y t) 71)).drew) (W.heap.size + 1) y t ∧ Below W.heap.size W (((W.alloc (.cells (relC x r) 71)).alloc (.cells (relC y t) 71)).drew) := by
  refine ⟨((belQ (W.alloc (.cells (relC x r) 71)) (.cells (relC y t) 71)).block W.heap.size (by simp)).trans (World.alloc_heap_new W _), ?_, (((belQ W _).trans ((belQ _ _).mono (by simp))).drew)⟩
  have := World.alloc_heap_new (W.alloc (.cells (relC x r) 71)) (.cells (relC y t) 71)
  rw [World.size_alloc] at this
  exact this
def GrowR (w : World) (X : List RelL) (e : Ending) (w' : World) : Prop := ∃ b : Bool, e = .returned (.bool b) ∧ (b = true ↔ GrowP X) ∧ Below w.heap.size w w'
theorem GrowR.mk {w w' : World} {X : List RelL} (b : Bool) (h : b = true ↔ GrowP X) (hb : Below w.heap.size w w') : GrowR w X (.returned (.bool b)) w' := ⟨b, rfl, h, hb⟩
set_option maxRecDepth 100000 in
set_option maxHeartbeats 16000000 in
theorem growing_any (v iv : Value) (X : List RelL) (w : World) (hX : X.length ≤ 1000000) (hq : ∀ x ∈ X, x.reqs.length ≤ 1000000 ∧ ∀ q ∈ x.reqs, q.2.length ≤ 40000) (hR : RelsOf w.heap.size v X w) :
    Calls Tryz.prog 43 #[.agg #[v, iv]] w (GrowR w X) := by
  obtain ⟨ao, cap, rv, rfl, hrel⟩ := hR.rv
  have HREL := Lib.hid hrel
  have HQ := Lib.hid hq
  clear hR hrel hq
  have HB0 := Lib.hid (LawB.start w (.slice ao X.length cap) iv)
  go_enter Tryz.func43, Tryz.ntmps43
  go_upto_region 1 with fail
  generalize w.alloc (.cells #[.slice ao X.length cap, iv] 25) = W at *
  go_wp2_with fail
  go_loopw [3] (fun q wr => Hid (∃ k : Nat, 1 ≤ k ∧ (k ≤ X.length ∨ k = 1) ∧ q = .int .i64 (k : Int) ∧ LawB w (.slice ao X.length cap) iv wr ∧ GrowK X k)) (fun q _ => X.length - (intOf q).toNat)
  case atStart => exact Lib.hid ⟨1, Nat.le_refl _, .inr rfl, rfl, HB0.out, GrowK.one X⟩
  case round =>
    obtain ⟨k, hk1, hkl, rfl, hw, hg⟩ := hrel.out
    have HW := Lib.hid hw
    have HG := Lib.hid hg
    clear hrel hw hg
    have c0 := HW.out.c0
    by_cases hlt : k < X.length
    case neg =>
      have HGP := Lib.hid (HG.out.all (Nat.le_of_not_lt hlt))
      have hdk : decide ((k : Int) < (X.length : Int)) = false := decide_eq_false (by omega)
      have hnk : ¬ (k : Int) < (X.length : Int) := by omega
      clear hkl
      go_wp2_with fail
      go_ret
      exact GrowR.mk true ⟨fun _ => HGP.out, fun _ => rfl⟩ HW.out.bel
    case pos =>
      have hkm : k - 1 < X.length := by omega
      obtain ⟨b, off, e1, hbl, hcA, hrA⟩ := HREL.out (k - 1) _ (List.getElem?_eq_getElem hkm)
      obtain ⟨b', off', e2, _, hcB, hrB⟩ := HREL.out k _ (List.getElem?_eq_getElem hlt)
      subst e1
      cases e2
      have gA : X.getD (k - 1) default = X[k - 1] := by rw [List.getD_eq_getElem?_getD, List.getElem?_eq_getElem hkm]; rfl
      have gB : X.getD k default = X[k] := by rw [List.getD_eq_getElem?_getD, List.getElem?_eq_getElem hlt]; rfl
      have HSK : Hid (X[k - 1].path ≠ X[k].path → GrowK X (k + 1)) := Lib.hid (fun h => HG.out.skip hk1 (by rw [gA, gB]; exact h))
      have HST : Hid ((∀ q ∈ X[k - 1].reqs, X[k].reqs.any (growB q) = true) → GrowK X (k + 1)) := Lib.hid (fun h => HG.out.step hk1 (by rw [gA, gB]; exact fun q hq => (growB_any q _).1 (h q hq)))
      have HNT : Hid (X[k - 1].path = X[k].path → ∀ q ∈ X[k - 1].reqs, X[k].reqs.any (growB q) = false → ¬ GrowP X) := Lib.hid (fun h q hq hn => GrowP.not hk1 hlt (by rw [gA, gB]; exact h) (by rw [gA]; exact hq) (by rw [gB]; exact hn))
      obtain ⟨hla, hqa⟩ := HQ.out _ (List.getElem_mem hkm)
      obtain ⟨hlb, hqb⟩ := HQ.out _ (List.getElem_mem hlt)
      have HQA := Lib.hid hqa
      have HQB := Lib.hid hqb
      have hcA := hcA.below HW.out.bel hbl
      have hcB := hcB.below HW.out.bel hbl
      have HRA := Lib.hid (hrA.on HW.out.bel)
      have HRB := Lib.hid (hrB.on HW.out.bel)
      generalize rv (k - 1) = rA at *
      generalize rv k = rB at *
      generalize X[k - 1] = xa at *
      generalize X[k] = xb at *
      obtain ⟨aA, cA, rfl, _⟩ := hrA
      obtain ⟨aB, cB, rfl, _⟩ := hrB
      clear gA gB hqa hqb
      obtain ⟨d0, d1, d2, d3, d4, d5, d6, d7, d8⟩ := hcA
      obtain ⟨f0, f1, f2, f3, f4, f5, f6, f7, f8⟩ := hcB
      have hsub : wrap64 ((k : Int) - 1) = ((k - 1 : Nat) : Int) := wrap_pre1 hk1 hlt hX
      have hsub2 : IntKind.i64.wrap ((k : Int) - 1) = ((k - 1 : Nat) : Int) := by rw [IntWalk.i64_in _ (by omega)]; omega
      have hi0 : (0 : Int) ≤ ((k - 1 : Nat) : Int) := Int.natCast_nonneg _
      have hi1 : ((k - 1 : Nat) : Int) < (X.length : Int) := Int.ofNat_lt.2 hkm
      have hi2 : (0 : Int) ≤ (k : Int) := Int.natCast_nonneg _
      have hi3 : (k : Int) < (X.length : Int) := Int.ofNat_lt.2 hlt
      have hwl := HW.out.lt
      have hbw : b < wr.heap.size := Nat.lt_of_lt_of_le hbl HW.out.bel.size
      clear hkl
      go_upto_region 4 with fail
      go_cut [4, 5] from 15 to 25 (fun s4 s5 wx => ∃ ga gb : Nat, s4 = .pointer (some ⟨ga, 0, none⟩) ∧ s5 = .pointer (some ⟨gb, 0, none⟩) ∧ Hid (BoxR wx ga xa (.slice aA xa.reqs.length cA) ∧ BoxR wx gb xb (.slice aB xb.reqs.length cB) ∧ Below wr.heap.size wr wx))
      case first =>
        go_region
        all_goals
          go_wp2_with fail
          go_meet
          first
          | exact ⟨wr.heap.size, wr.heap.size + 1, rfl, rfl, Lib.hid (two_boxes wr xa xb _ _)⟩
          | exact ⟨wr.heap.size + 1, wr.heap.size, rfl, rfl, Lib.hid ⟨(two_boxes wr xb xa _ _).2.1, (two_boxes wr xb xa _ _).1, (two_boxes wr xb xa _ _).2.2⟩⟩
      case rest =>
        obtain ⟨ga, gb, rfl, rfl, HX⟩ := hcut
        generalize wc = W2 at *
        have HW2 := Lib.hid (HW.out.below HX.out.2.2)
        have HRA2 := Lib.hid (HRA.out.on HX.out.2.2)
        have HRB2 := Lib.hid (HRB.out.on HX.out.2.2)
        clear d0 d1 d2 d3 d4 d5 d6 d7 d8 f0 f1 f2 f3 f4 f5 f6 f7 f8 c0 hsub hsub2 hi0 hi1 HRA HRB HW
        obtain ⟨a0, _, _, _, a4, _⟩ := HX.out.1.cells
        obtain ⟨b0, _, _, _, b4, _⟩ := HX.out.2.1.cells
        by_cases hp : xa.path = xb.path
        case neg =>
          have hpb : (xa.path.toList == xb.path.toList) = false := by rw [eqs_dec]; exact decide_eq_false hp
          have HG2 := Lib.hid (HSK.out hp)
          clear hp
          go_wp2_with fail
          go_roundw
          case rel => exact Lib.hid ⟨k + 1, by omega, .inl hlt, by go_num, HW2.out, HG2.out⟩
          case measure => simp [intOf]; omega
        case pos =>
          have hpb : (xa.path.toList == xb.path.toList) = true := by rw [eqs_dec]; exact decide_eq_true hp
          have HNT2 := Lib.hid (HNT.out hp)
          clear hp HNT HSK
          go_wp2_with fail
          go_loopw [34] (fun q wr => Hid (∃ j : Nat, j ≤ xa.reqs.length ∧ q = .int .i64 (j : Int) ∧ Below W2.heap.size W2 wr ∧ ∀ q ∈ xa.reqs.take j, xb.reqs.any (growB q) = true)) (fun q _ => xa.reqs.length - (intOf q).toNat)
          case atStart => exact Lib.hid ⟨0, Nat.zero_le _, rfl, Below.refl _ _, fun q hq => by simp at hq⟩
          case round =>
            obtain ⟨j, hj, rfl, hb, hall⟩ := hrel.out
            have HB := Lib.hid hb
            have HALL := Lib.hid hall
            clear hrel hb hall
            have HW3 := Lib.hid (HW2.out.below HB.out)
            by_cases hlj : j < xa.reqs.length
            case neg =>
              have hjj : j = xa.reqs.length := Nat.le_antisymm hj (Nat.le_of_not_lt hlj)
              subst hjj
              have HG2 := Lib.hid (HST.out (by have := HALL.out; rwa [List.take_length] at this))
              go_wp2_with fail
              go_roundw
              case rel => exact Lib.hid ⟨k + 1, by omega, .inl hlt, by go_num, HW3.out, HG2.out⟩
              case measure => simp [intOf]; omega
            case pos =>
              obtain ⟨bq, oq, r, e3, hbq, g0, g1, hsp⟩ : ∃ bq oq r, aA = some ⟨bq, oq, none⟩ ∧ bq < W2.heap.size ∧ W2.cell? ⟨bq, oq + j * 2, none⟩ = some (.string xa.reqs[j].1) ∧ W2.cell? ⟨bq, oq + j * 2 + 1, none⟩ = some r ∧ SpansOf W2.heap.size r xa.reqs[j].2 W2 := by
                obtain ⟨a, c, e, h⟩ := HRA2.out
                injection e with e1 e2 e3
                subst e1
                exact h j _ (List.getElem?_eq_getElem hlj)
              subst e3
              have HM := Lib.hid (HQA.out _ (List.getElem_mem hlj))
              have HNJ := Lib.hid (HNT2.out _ (List.getElem_mem hlj))
              have HAJ : Hid (xb.reqs.any (growB xa.reqs[j]) = true → ∀ q ∈ xa.reqs.take (j + 1), xb.reqs.any (growB q) = true) := Lib.hid (fun h q hq => by
                rw [List.take_succ_eq_append_getElem hlj] at hq
                rcases List.mem_append.1 hq with h1 | h1
                · exact HALL.out q h1
                · rw [List.mem_singleton.1 h1]; exact h)
              have g0 := (HB.out.cell (p := ⟨bq, oq + j * 2, none⟩) hbq).trans g0
              have g1 := (HB.out.cell (p := ⟨bq, oq + j * 2 + 1, none⟩) hbq).trans g1
              have HSP := Lib.hid (hsp.on HB.out)
              have hj0 : (0 : Int) ≤ (j : Int) := Int.natCast_nonneg j
              have hj1 : (j : Int) < (xa.reqs.length : Int) := Int.ofNat_lt.2 hlj
              generalize xa.reqs[j] = q at *
              obtain ⟨qa, qc, rfl, _⟩ := hsp
              have HBQ := Lib.hid (belQ wr (.cells #[.string q.1, .slice qa q.2.length qc] 58))
              have HNQ := Lib.hid (World.alloc_heap_new wr (.cells #[.string q.1, .slice qa q.2.length qc] 58))
              have hgq : wr.heap.size < (wr.alloc (.cells #[.string q.1, .slice qa q.2.length qc] 58)).heap.size := by simp
              go_upto_region 9 with fail
              generalize wr.alloc (.cells #[.string q.1, .slice qa q.2.length qc] 58) = W4 at *
              have HB4 := Lib.hid (HB.out.trans (HBQ.out.mono HB.out.size))
              have HW4 := Lib.hid (HW2.out.below HB4.out)
              have HCF := Lib.hid (has_req 98 #[.pointer (some ⟨wr.heap.size, 0, none⟩)] (enters_of Tryz.func98 (by kernel_rfl) rfl) (growB q) (.slice aB xb.reqs.length cB) xb.reqs W4 (by omega) (HRB2.out.on HB4.out) (grow_pred q xb.reqs wr.heap.size _ W4 HQB.out HM.out HNQ.out (HSP.out.on HBQ.out)))
              have b4 : W4.cell? ⟨gb, 4, none⟩ = some (.slice aB xb.reqs.length cB) := (HX.out.2.1.on HB4.out).cells.2.2.2.2.1
              obtain ⟨ab, hab⟩ : ∃ ab, xb.reqs.any (growB q) = ab := ⟨_, rfl⟩
              rw [hab] at HCF HNJ HAJ
              clear g0 g1 hab HBQ HNQ
              go_wp2_with fail
              refine HCF.out.mono ?_
              rintro e w5 ⟨rfl, hb5⟩
              have HB5 := Lib.hid (HB4.out.trans (hb5.mono HB4.out.size))
              have HW5 := Lib.hid (HW4.out.below hb5)
              clear hb5 HCF b4
              cases ab with
              | false =>
                have HNG := Lib.hid (HNJ.out rfl)
                go_wp2_with fail
                go_ret
                exact GrowR.mk false ⟨(fun h => by cases h), fun h => absurd h HNG.out⟩ HW5.out.bel
              | true =>
                have HA2 := Lib.hid (HAJ.out rfl)
                go_wp2_with fail
                go_roundw
                case rel => exact Lib.hid ⟨j + 1, hlj, by go_num, HB5.out, HA2.out⟩
                case measure => simp [intOf]; omega
end Go.Proofs.YtenfkejbndifdaaGreatDoor
