/- Contracts of the reference's Has, Union, Same, and of the laws' few. Contract of the reference's SameRequirements. -/
import Derived.Test.YtenfkejbndifdaaGreatDoorVB
import Derived.Test.YtenfkejbndifdaaGreatDoorUC
import Derived.Test.YtenfkejbndifdaaGreatDoorUA
import Derived.Laws.AppendOwnNone
import Derived.Maps.AppendAt
import Derived.Test.YtenfkejbndifdaaGreatDoorUV
namespace Go.Proofs.YtenfkejbndifdaaGreatDoor
set_option linter.unusedVariables false
set_option linter.unusedSimpArgs false
open Go Go.RowKit

def inR (p : Int) (x : Int × Int) : Bool := decide (max 0 x.1 ≤ p) && decide (p < min 1000000 x.2)
theorem any_take_yes {α : Type} {l : List α} {q : α → Bool} {x : α} (h : x ∈ l) (hx : q x = true) : l.any q = true := List.any_eq_true.2 ⟨x, h, hx⟩
theorem any_take_no {α : Type} {l : List α} {q : α → Bool} (h : ∀ x ∈ l, q x = false) : l.any q = false := by
  rw [← Bool.not_eq_true, List.any_eq_true]
  rintro ⟨x, hx, h2⟩
  rw [h x hx] at h2
  cases h2
theorem take_all_snoc {α : Type} {l : List α} {k : Nat} (hk : k < l.length) {P : α → Prop} (h : ∀ x ∈ l.take k, P x) (h2 : P l[k]) : ∀ x ∈ l.take (k + 1), P x := fun x hx => by
  rw [List.take_succ_eq_append_getElem hk] at hx
  rcases List.mem_append.1 hx with hx | hx
  · exact h x hx
  · rcases List.mem_singleton.1 hx with rfl
    exact h2
set_option maxRecDepth 100000 in
set_option maxHeartbeats 4000000 in
theorem rHas_any (v : Value) (s : List (Int × Int)) (p : Int) (w : World) (hs : s.length ≤ 1000000) (hE : SpansOf w.heap.size v s w) :
    Calls Tryz.prog 143 #[v, .int .i64 p] w fun e w' => e = .returned (.bool (hasB s p)) ∧ Below w.heap.size w w' := by
  obtain ⟨ao, ec, rfl, hE⟩ := hE
  have HE := Lib.hid hE
  clear hE
  obtain ⟨q, hq⟩ : ∃ q, hasB s p = q := ⟨_, rfl⟩
  rw [hq]
  have HQ := Lib.hid (show s.any (inR p) = q by rw [← hq]; exact hasB_ref s p)
  clear hq
  go_enter Tryz.func143, Tryz.ntmps143
  go_wp2_with fail
  go_loopw [5] (fun i wr => ∃ (k : Nat), k ≤ s.length ∧ i = .int .i64 k ∧ Hid (∀ x ∈ s.take k, inR p x = false) ∧ Hid (Below w.heap.size w wr)) (fun i _ => s.length - (intOf i).toNat)
  case atStart => exact ⟨0, by omega, rfl, Lib.hid (by simp), Lib.hid (Below.refl _ _)⟩
  case round =>
    obtain ⟨k, hk, rfl, HA, HB⟩ := hrel
    by_cases hlt : k < s.length
    · obtain ⟨b, off, rfl, hb, hc1, hc2⟩ := HE.out k s[k] (by simp [hlt])
      have hc1 := (HB.out.cell (p := ⟨b, off + k * 2, none⟩) hb).trans hc1
      have hc2 := (HB.out.cell (p := ⟨b, off + k * 2 + 1, none⟩) hb).trans hc2
      have HN := Lib.hid (fun h => take_all_snoc hlt HA.out h)
      have HY := Lib.hid (fun h => any_take_yes (q := inR p) (List.getElem_mem hlt) h)
      obtain ⟨⟨x1, x2⟩, hx⟩ : ∃ x, x = s[k] := ⟨_, rfl⟩
      rw [← hx] at hc1 hc2 HN HY
      clear hx
      simp only at hc1 hc2
      by_cases h1 : max 0 x1 ≤ p
      · by_cases h2 : p < min 1000000 x2
        · have HI := Lib.hid (HY.out (by unfold inR; simp only [h1, h2]; rfl))
          go_wp2_with fail
          go_ret
          exact ⟨by rw [← HQ.out, HI.out]; rfl, HB.out⟩
        · have HI := Lib.hid (HN.out (by unfold inR; simp only [h2]; simp))
          go_wp2_with fail
          go_roundw
          case rel => exact ⟨k + 1, by omega, by go_num, HI, HB⟩
          case measure => simp [intOf]; omega
      · have HI := Lib.hid (HN.out (by unfold inR; simp only [h1]; simp))
        go_wp2_with fail
        go_roundw
        case rel => exact ⟨k + 1, by omega, by go_num, HI, HB⟩
        case measure => simp [intOf]; omega
    · have hkk : k = s.length := by omega
      subst hkk
      rw [List.take_length] at HA
      go_wp2_with fail
      go_ret
      exact ⟨by rw [← HQ.out, any_take_no HA.out]; rfl, HB.out⟩
theorem run_app_nothing {P : Program} {w : World} (base : Nat) (t ty e : TypeId) (i : TypeInfo) (size : Nat) (ht : P.underlying t = some (.slice e)) (hi : P.info? e = some i)
    (v : Value) (n : Nat) (xs : List Value) (hown : w.ownsRow base e size v n xs) (c : Nat) : (Builtin.append_ #[t, t] ty #[v, .slice none 0 c]).run P w = .ok v w := by
  rcases hown.2 with ⟨rfl, rfl⟩ | ⟨g, cap, cur, rfl, _, _, hnc, _⟩
  · simp [Builtin.append_, run_underlying ht, sizeOf, typeInfo, hi, Builtin.lenOf, Builtin.firstCells]
  · simp [Builtin.append_, run_underlying ht, sizeOf, typeInfo, hi, Builtin.lenOf, Builtin.firstCells, hnc, storeCells]
theorem wpList_app_spans {w : World} {ops : Array Oper} {rest : List Oper} {o : Oper} {a : Act} {Q : Exit → Act → World → Prop} (hgd : o.guard = none) (s x : Operand)
    (ho : o.op = .call { callee := .builtin .append, args := #[s, x], argTypes := #[56, 56] })
    (base : Nat) (v : Value) (n : Nat) (L : List (Int × Int)) (hs : a.eval s = v) (hown : w.ownsRow base 133 2 v n (spanCells L)) (r : Value) (M : List (Int × Int)) (hx : a.eval x = r) (hM : SpansOf w.heap.size r M w)
    (hb : n + M.length ≤ 100000000) (hbase : base ≤ w.heap.size)
    (h : ∀ v' w', w'.ownsRow base 133 2 v' (n + M.length) (spanCells (L ++ M)) → w.grownBy w' v.ownBlock → wpList Tryz.prog ops Q rest (a.put o.dst v') w') : wpList Tryz.prog ops Q (o :: rest) a w := by
  obtain ⟨i0, hi, hz0, hz1, hz2⟩ := info_parts info_spans
  obtain ⟨ao, cap, rfl, hE⟩ := hM
  cases ao with
  | none =>
    have h0 : M = [] := by
      cases M with
      | nil => rfl
      | cons y M => obtain ⟨b, off, h1, _⟩ := hE 0 y rfl; cases h1
    subst h0
    refine wpList_plain hgd fun K hK => ?_
    have hrun := run_app_nothing (P := Tryz.prog) (w := w) base 56 o.type 133 i0 2 Tryz.underlying56 hi v n _ hown cap
    unfold Oper.wp
    simp [execOp, ho, resolve, invoke, builtin, hs, hx, hrun, Result.andThen]
    exact hK _ _ (h v w (by simpa using hown) (World.grownBy.refl w _))
  | some ad =>
    refine wpList_append_own _ hgd s x 56 ho base 133 i0 _ 2 16 Tryz.underlying56 hi hz0 hz1 hz2 rfl (by decide) v n _ hs hown ad M.length cap (spanCells M) hx (spanCells_length M) (fun j u hu => ?_) (spanCells_one M) (by unfold maxLen; omega) (by omega) hbase (fun v' w' h2 h3 _ => h v' w' (by rw [spanCells_append]; exact h2) h3)
    have hj := (List.getElem?_eq_some_iff.1 hu).1
    rw [spanCells_length] at hj
    have hi2 : j / 2 < M.length := by omega
    obtain ⟨b, off, h1, _, h2, h3⟩ := hE (j / 2) M[j / 2] (by simp [hi2])
    obtain ⟨g1, g2⟩ := spanCells_get M (j / 2) M[j / 2] (by simp [hi2])
    cases h1
    have e0 : (⟨b, off, none⟩ : Addr).add j = ⟨b, off + j, none⟩ := by unfold Addr.add; split <;> simp_all
    rw [e0]
    rcases Nat.mod_two_eq_zero_or_one j with hm | hm
    · have ej : j / 2 * 2 = j := by omega
      rw [ej] at g1 h2
      rw [hu] at g1
      rw [h2, g1]
    · have ej : j / 2 * 2 + 1 = j := by omega
      rw [ej] at g2
      rw [Nat.add_assoc, ej] at h3
      rw [hu] at g2
      rw [h3, g2]
theorem flat_len (l : List (List (Int × Int))) (C : Nat) (h : ∀ s ∈ l, s.length ≤ C) : l.flatten.length ≤ l.length * C := by
  induction l with
  | nil => simp
  | cons s l ih =>
    have h1 := h s (by simp)
    have h2 := ih fun t ht => h t (by simp [ht])
    rw [List.flatten_cons, List.length_append, List.length_cons, Nat.add_mul]
    omega
set_option maxRecDepth 100000 in
set_option maxHeartbeats 4000000 in
theorem rUnion_any (v : Value) (l : List (List (Int × Int))) (w : World) (hl : l.length ≤ 100) (hs : ∀ s ∈ l, s.length ≤ 1000) (hS : SetsOf w.heap.size v l w) :
    Calls Tryz.prog 131 #[v] w fun e w' => ∃ v', e = .returned v' ∧ SpansOf w'.heap.size v' (unionS l) w' ∧ Below w.heap.size w w' := by
  obtain ⟨ao, ec, rfl, hS⟩ := hS
  have HS := Lib.hid hS
  have HL := Lib.hid hs
  have HR := Lib.hid (flat_union l)
  generalize unionS l = r at *
  clear hS hs
  go_enter Tryz.func131, Tryz.ntmps131
  go_wp2_with fail
  go_loopw [3, 4] (fun o p wr => ∃ (k : Nat), k ≤ l.length ∧ p = .int .i64 k ∧ Hid (wr.ownsRow w.heap.size 133 2 o (l.take k).flatten.length (spanCells (l.take k).flatten)) ∧ Hid (Below w.heap.size w wr)) (fun _ p _ => l.length - (intOf p).toNat)
  case atStart => exact ⟨0, by omega, rfl, Lib.hid (World.ownsRow_made w #[] 0 (Nat.le_refl _) (by decide) rfl), Lib.hid ((Below.refl _ _).alloc (Nat.le_refl _) _)⟩
  case round =>
    obtain ⟨k, hk, rfl, HO, HB⟩ := hrel
    have hszr := HB.out.size
    have hfl := flat_len (l.take k) 1000 (fun s hs => HL.out s (List.mem_of_mem_take hs))
    rw [List.length_take, Nat.min_eq_left hk] at hfl
    by_cases hlt : k < l.length
    · obtain ⟨b, off, r1, rfl, hb, hc1, hE1⟩ := HS.out k l[k] (by simp [hlt])
      have hc1 := (HB.out.cell (p := ⟨b, off + k, none⟩) hb).trans hc1
      have HE1 := Lib.hid ((hE1.below HB.out (Nat.le_refl _)).mono hszr)
      have HT : Hid ((l.take (k + 1)).flatten = (l.take k).flatten ++ l[k]) := Lib.hid (by rw [List.take_succ_eq_append_getElem hlt, List.flatten_append, List.flatten_cons, List.flatten_nil, List.append_nil])
      have hx := HL.out l[k] (List.getElem_mem hlt)
      generalize l[k] = x at *
      generalize (l.take k).flatten = L at *
      clear hE1
      go_wp2_with (at_builtin; refine wpList_app_spans rfl _ _ rfl w.heap.size u3 L.length L (by rfl) HO.out r1 x (by rfl) HE1.out (by omega) hszr ?_; intro v' w3 hown' hgrow; have HOW := Lib.hid hown'; have HBW := Lib.hid (HB.out.grown hgrow hszr (fun b hb => (HO.out.lt b hb).1)); clear hown' hgrow)
      go_roundw
      case rel =>
        refine ⟨k + 1, by omega, by go_num, Lib.hid ?_, HBW⟩
        rw [HT.out, List.length_append]
        exact HOW.out
      case measure => simp [intOf]; omega
    · have hkk : k = l.length := by omega
      subst hkk
      rw [List.take_length] at HO hfl
      have HC := Lib.hid (rCanonical_any u3 l.flatten wr (by omega) (own_spans HO.out))
      rw [HR.out] at HC
      clear hfl
      go_wp2_with fail
      (with_reducible refine HC.out.mono ?_)
      rintro e w1 ⟨v1, rfl, hE1, hb1⟩
      have HE1 := Lib.hid hE1
      have HB1 := Lib.hid (HB.out.trans (hb1.mono hszr))
      clear hE1 hb1
      go_wp2_with fail
      go_ret
      exact ⟨_, rfl, HE1.out, HB1.out⟩
def fewB (l : List (List (Int × Int))) : Bool := (l.all fun s => decide (s.length ≤ 30)) && decide (l.length ≤ 6)
set_option maxRecDepth 100000 in
set_option maxHeartbeats 4000000 in
theorem SameS_any (v u : Value) (a b : List (Int × Int)) (w : World) (ha : a.length ≤ 1000000000) (hb : b.length ≤ 1000000000) (hE : SpansOf w.heap.size v a w) (hF : SpansOf w.heap.size u b w) :
    Calls Tryz.prog 91 #[v, u] w fun e w' => e = .returned (.bool (decide (a = b))) ∧ Below w.heap.size w w' := by
  obtain ⟨ao, ec, rfl, hE⟩ := hE
  obtain ⟨bo, fc, rfl, hF⟩ := hF
  have HE := Lib.hid hE
  have HF := Lib.hid hF
  clear hE hF
  obtain ⟨q, hq⟩ : ∃ q, decide (a = b) = q := ⟨_, rfl⟩
  rw [hq]
  have HQ := Lib.hid hq
  clear hq
  by_cases hl : a.length = b.length
  · have hl2 : ((a.length : Int) == (b.length : Int)) = true := by simp [hl]
    have hl3 : ((a.length : Int) != (b.length : Int)) = false := by simp [hl]
    have HLN := Lib.hid hl
    clear hl
    go_enter Tryz.func91, Tryz.ntmps91
    go_wp2_with fail
    go_loopw [5] (fun i wr => ∃ (k : Nat), k ≤ a.length ∧ i = .int .i64 k ∧ Hid (a.take k = b.take k) ∧ Hid (Below w.heap.size w wr)) (fun i _ => a.length - (intOf i).toNat)
    case atStart => exact ⟨0, by omega, rfl, Lib.hid (by simp), Lib.hid (Below.refl _ _)⟩
    case round =>
      obtain ⟨k, hk, rfl, HA, HB⟩ := hrel
      by_cases hlt : k < a.length
      · have hlt2 : k < b.length := by rw [← HLN.out]; exact hlt
        obtain ⟨b1, o1, rfl, hb1, hc1, hc2⟩ := HE.out k a[k] (by simp [hlt])
        obtain ⟨b2, o2, rfl, hb2, hd1, hd2⟩ := HF.out k b[k] (by simp [hlt2])
        have hc1 := (HB.out.cell (p := ⟨b1, o1 + k * 2, none⟩) hb1).trans hc1
        have hc2 := (HB.out.cell (p := ⟨b1, o1 + k * 2 + 1, none⟩) hb1).trans hc2
        have hd1 := (HB.out.cell (p := ⟨b2, o2 + k * 2, none⟩) hb2).trans hd1
        have hd2 := (HB.out.cell (p := ⟨b2, o2 + k * 2 + 1, none⟩) hb2).trans hd2
        have HT1 := Lib.hid (List.take_succ_eq_append_getElem hlt)
        have HT2 := Lib.hid (List.take_succ_eq_append_getElem hlt2)
        have HG : Hid (a = b → a[k] = b[k]) := Lib.hid (fun h => by subst h; rfl)
        obtain ⟨⟨x1, x2⟩, hx⟩ : ∃ x, x = a[k] := ⟨_, rfl⟩
        obtain ⟨⟨y1, y2⟩, hy⟩ : ∃ y, y = b[k] := ⟨_, rfl⟩
        rw [← hx] at hc1 hc2 HT1 HG
        rw [← hy] at hd1 hd2 HT2 HG
        clear hx hy
        simp only at hc1 hc2 hd1 hd2
        by_cases h1 : x1 = y1 ∧ x2 = y2
        · obtain ⟨rfl, rfl⟩ := h1
          go_wp2_with fail
          try go_region
          all_goals
            go_wp2_with fail
            go_roundw
            case rel => exact ⟨k + 1, by omega, by go_num, Lib.hid (by rw [HT1.out, HT2.out, HA.out]), by first | exact HB | exact Lib.hid HB.out.drew | (refine Lib.hid ?_; have := HB.out; exact this)⟩
            case measure => simp [intOf]; omega
        · have HNE : Hid (q = false) := Lib.hid (by
            rw [← HQ.out]
            exact decide_eq_false fun h => h1 (by have := HG.out h; exact Prod.mk.inj this))
          rcases Classical.not_and_iff_not_or_not.1 h1 with h2 | h2
          all_goals
            clear h1
            go_wp2_with fail
            try go_region
            all_goals
              go_wp2_with fail
              go_ret
              exact ⟨by rw [HNE.out]; rfl, by first | exact HB.out | exact HB.out.drew⟩
      · have hkk : k = a.length := by omega
        subst hkk
        have HAB : Hid (q = true) := Lib.hid (by
          rw [← HQ.out]
          have := HA.out
          rw [List.take_length, HLN.out, List.take_length] at this
          exact decide_eq_true this)
        go_wp2_with fail
        go_ret
        exact ⟨by rw [HAB.out]; rfl, HB.out⟩
  · have hl2 : ((a.length : Int) == (b.length : Int)) = false := by simp; omega
    have hl3 : ((a.length : Int) != (b.length : Int)) = true := by simp; omega
    have HNE : Hid (q = false) := Lib.hid (by rw [← HQ.out]; exact decide_eq_false fun h => hl (by rw [h]))
    clear hl
    go_enter Tryz.func91, Tryz.ntmps91
    go_wp2_with fail
    go_ret
    exact ⟨by rw [HNE.out]; rfl, Below.refl _ _⟩
end Go.Proofs.YtenfkejbndifdaaGreatDoor

namespace Go.Proofs.YtenfkejbndifdaaGreatDoor
set_option linter.unusedVariables false
set_option linter.unusedSimpArgs false
open Go Go.RowKit

theorem take_ne {a b : List ReqL} {k : Nat} (ha : k < a.length) (hb : k < b.length) (h : a[k] ≠ b[k]) : a ≠ b := fun e => by subst e; exact h rfl
set_option maxRecDepth 100000 in
set_option maxHeartbeats 4000000 in
theorem sameReqs_any (v u : Value) (a b : List ReqL) (w : World) (ha : a.length ≤ 1000000) (hb : b.length ≤ 1000000) (has : ∀ q ∈ a, q.2.length ≤ 1000000) (hbs : ∀ q ∈ b, q.2.length ≤ 1000000) (hA : ReqsOf w.heap.size v a w) (hB : ReqsOf w.heap.size u b w) :
    Calls Tryz.prog 32 #[v, u] w fun e w' => e = .returned (.bool (decide (a = b))) ∧ Below w.heap.size w w' := by
  have HA := Lib.hid hA
  have HB := Lib.hid hB
  have HAS := Lib.hid has
  have HBS := Lib.hid hbs
  obtain ⟨va, vc, rfl⟩ : ∃ ra rc, v = .slice ra a.length rc := by obtain ⟨a, c, e, _⟩ := hA; exact ⟨a, c, e⟩
  obtain ⟨ua, uc, rfl⟩ : ∃ ra rc, u = .slice ra b.length rc := by obtain ⟨a, c, e, _⟩ := hB; exact ⟨a, c, e⟩
  clear hA hB has hbs
  by_cases hl : a.length = b.length
  case neg =>
    have hne : ((a.length : Int) != (b.length : Int)) = true := by simp; omega
    have HD : Hid (decide (a = b) = false) := Lib.hid (decide_eq_false fun e => hl (by rw [e]))
    go_enter Tryz.func32, Tryz.ntmps32
    go_wp2_with fail
    go_ret
    exact ⟨by rw [HD.out]; rfl, Below.refl _ _⟩
  have HLL := Lib.hid hl
  have hne : ((a.length : Int) != (b.length : Int)) = false := by simp; omega
  clear hl
  go_enter Tryz.func32, Tryz.ntmps32
  go_wp2_with fail
  clear hne
  go_loopw [5] (fun p wr => ∃ k : Nat, k ≤ a.length ∧ p = .int .i64 (k : Int) ∧ Hid (a.take k = b.take k) ∧ Hid (Below w.heap.size w wr)) (fun p _ => a.length - (intOf p).toNat)
  case atStart => exact ⟨0, Nat.zero_le _, rfl, Lib.hid rfl, Lib.hid (Below.refl _ _)⟩
  case round =>
    obtain ⟨k, hk, rfl, HT, HW⟩ := hrel
    by_cases hlt : k < a.length
    case neg =>
      have hkk : k = a.length := by omega
      have HE : Hid (decide (a = b) = true) := Lib.hid (decide_eq_true (by
        have h := HT.out
        have h2 := HLL.out
        rw [hkk, List.take_length, h2, List.take_length] at h
        exact h))
      subst hkk
      go_wp2_with fail
      go_ret
      exact ⟨by rw [HE.out]; rfl, HW.out⟩
    case pos =>
      have hltb : k < b.length := by have := HLL.out; omega
      obtain ⟨ab, ao, ar, rfl, hab, c0, c1, hs1⟩ := HA.out.get hlt
      obtain ⟨bb, bo, br, rfl, hbb, d0, d1, hs2⟩ := HB.out.get hltb
      have c0 := (HW.out.cell (p := ⟨ab, ao + k * 2, none⟩) hab).trans c0
      have c1 := (HW.out.cell (p := ⟨ab, ao + k * 2 + 1, none⟩) hab).trans c1
      have d0 := (HW.out.cell (p := ⟨bb, bo + k * 2, none⟩) hbb).trans d0
      have d1 := (HW.out.cell (p := ⟨bb, bo + k * 2 + 1, none⟩) hbb).trans d1
      have hsz := HW.out.size
      have HSM := Lib.hid (SameS_any ar br a[k].2 b[k].2 wr.drew (Nat.le_trans (HAS.out _ (List.getElem_mem hlt)) (by decide)) (Nat.le_trans (HBS.out _ (List.getElem_mem hltb)) (by decide)) (((hs1.below HW.out (Nat.le_refl _)).mono hsz).below (Below.refl wr.heap.size wr).drew (Nat.le_refl _)) (((hs2.below HW.out (Nat.le_refl _)).mono hsz).below (Below.refl wr.heap.size wr).drew (Nat.le_refl _)))
      have HTA : Hid (a.take (k + 1) = a.take k ++ [a[k]]) := Lib.hid (List.take_succ_eq_append_getElem hlt)
      have HTB : Hid (b.take (k + 1) = b.take k ++ [b[k]]) := Lib.hid (List.take_succ_eq_append_getElem hltb)
      have HNE : Hid (a[k] ≠ b[k] → decide (a = b) = false) := Lib.hid (fun h => decide_eq_false (take_ne hlt hltb h))
      have hk1 : (0 : Int) ≤ (k : Int) := Int.natCast_nonneg k
      have hk2 : (k : Int) < (a.length : Int) := Int.ofNat_lt.2 hlt
      have hk3 : (k : Int) < (b.length : Int) := Int.ofNat_lt.2 hltb
      have habw : ab < wr.heap.size := Nat.lt_of_lt_of_le hab hsz
      have hbbw : bb < wr.heap.size := Nat.lt_of_lt_of_le hbb hsz
      have HWR := Lib.hid ((Below.refl wr.heap.size wr).drew)
      have HSB : Hid (∀ W', Below wr.heap.size wr W' → W'.cell? ⟨ab, ao + k * 2, none⟩ = some (.string a[k].1) ∧ W'.cell? ⟨ab, ao + k * 2 + 1, none⟩ = some ar ∧ W'.cell? ⟨bb, bo + k * 2, none⟩ = some (.string b[k].1) ∧ W'.cell? ⟨bb, bo + k * 2 + 1, none⟩ = some br) := Lib.hid (fun W' hb => ⟨(hb.cell (p := ⟨ab, ao + k * 2, none⟩) habw).trans c0, (hb.cell (p := ⟨ab, ao + k * 2 + 1, none⟩) habw).trans c1, (hb.cell (p := ⟨bb, bo + k * 2, none⟩) hbbw).trans d0, (hb.cell (p := ⟨bb, bo + k * 2 + 1, none⟩) hbbw).trans d1⟩)
      clear c0 c1 d0 d1 hs1 hs2
      generalize a[k] = x at *
      generalize b[k] = y at *
      obtain ⟨xp, xs⟩ := x
      obtain ⟨yp, ys⟩ := y
      simp only at HSM HSB
      by_cases hp : xp = yp
      case neg =>
        have hq : (xp.toList == yp.toList) = false := by rw [eqs_dec]; exact decide_eq_false hp
        have hq2 : ¬ xp.toList = yp.toList := fun e => hp (bytes_inj e)
        have HD := Lib.hid (HNE.out (fun e => hp (congrArg Prod.fst e)))
        clear hp
        go_upto_region 6 with fail
        refine wp_region_noPanic ?_
        refine wp_region_held_drew (S := fun W' => W'.cell? ⟨ab, ao + k * 2, none⟩ = some (.string xp) ∧ W'.cell? ⟨ab, ao + k * 2 + 1, none⟩ = some ar ∧ W'.cell? ⟨bb, bo + k * 2, none⟩ = some (.string yp) ∧ W'.cell? ⟨bb, bo + k * 2 + 1, none⟩ = some br) (by kernel_rfl) (HSB.out _ (Below.refl _ _).drew) (fun hS0 => ?_)
        (refine zl3 0 ?_ rfl ?_ ?_; rotate_left; (· (rintro w ⟨c0, c1, d0, d1⟩; go_simp; try with_reducible rfl)); (try simp only [zl1]))
        (refine zl3 1 ?_ rfl ?_ ?_; rotate_left; (· (rintro w ⟨c0, c1, d0, d1⟩; go_simp; try with_reducible rfl)); (try simp only [zl1]))
        (refine zl3 2 ?_ rfl ?_ ?_; rotate_left; (· (rintro w ⟨c0, c1, d0, d1⟩; go_simp; try with_reducible rfl)); (try simp only [zl1]))
        (refine zl3 3 ?_ rfl ?_ ?_; rotate_left; (· (rintro w ⟨c0, c1, d0, d1⟩; go_simp; try with_reducible rfl)); (try simp only [zl1]))
        (refine zl3 4 ?_ rfl ?_ ?_; rotate_left; (· (rintro w ⟨c0, c1, d0, d1⟩; go_simp; try with_reducible rfl)); (try simp only [zl1]))
        (refine zl3 5 ?_ rfl ?_ ?_; rotate_left; (· (rintro w ⟨c0, c1, d0, d1⟩; go_simp; try with_reducible rfl)); (try simp only [zl1]))
        (refine zl3 6 ?_ rfl ?_ ?_; rotate_left; (· (rintro w ⟨c0, c1, d0, d1⟩; go_simp; try with_reducible rfl)); (try simp only [zl1]))
        (refine zl3 7 ?_ rfl ?_ ?_; rotate_left; (· (rintro w ⟨c0, c1, d0, d1⟩; go_simp; try with_reducible rfl)); (try simp only [zl1]))
        (refine zl3 8 ?_ rfl ?_ ?_; rotate_left; (· (rintro w ⟨c0, c1, d0, d1⟩; go_simp; try with_reducible rfl)); (try simp only [zl1]))
        (refine zl3 9 ?_ rfl ?_ ?_; rotate_left; (· (rintro w ⟨c0, c1, d0, d1⟩; go_simp; try with_reducible rfl)); (try simp only [zl1]))
        (refine zl3 10 ?_ rfl ?_ ?_; rotate_left; (· (rintro w ⟨c0, c1, d0, d1⟩; go_simp; try with_reducible rfl)); (try simp only [zl1]))
        (refine zl3 11 ?_ rfl ?_ ?_; rotate_left; (· (rintro w ⟨c0, c1, d0, d1⟩; go_simp; try with_reducible rfl)); (try simp only [zl1]))
        (refine zl2 (i := 12) (v := undef) rfl (Or.inr ⟨by rfl, rfl⟩) (by assumption) ?_; (try simp only [zl1]))
        (refine zl2 (i := 13) (v := undef) rfl (Or.inr ⟨by rfl, rfl⟩) (by assumption) ?_; (try simp only [zl1]))
        (refine zl2 (i := 14) (v := undef) rfl (Or.inr ⟨by rfl, rfl⟩) (by assumption) ?_; (try simp only [zl1]))
        (refine zl2 (i := 15) (v := undef) rfl (Or.inr ⟨by rfl, rfl⟩) (by assumption) ?_; (try simp only [zl1]))
        (refine zl2 (i := 16) (v := undef) rfl (Or.inr ⟨by rfl, rfl⟩) (by assumption) ?_; (try simp only [zl1]))
        (refine zl2 (i := 17) (v := undef) rfl (Or.inr ⟨by rfl, rfl⟩) (by assumption) ?_; (try simp only [zl1]))
        (refine zl2 (i := 18) (v := undef) rfl (Or.inr ⟨by rfl, rfl⟩) (by assumption) ?_; (try simp only [zl1]))
        (refine zl2 (i := 19) (v := undef) rfl (Or.inr ⟨by rfl, rfl⟩) (by assumption) ?_; (try simp only [zl1]))
        (refine zl2 (i := 20) (v := undef) rfl (Or.inr ⟨by rfl, rfl⟩) (by assumption) ?_; (try simp only [zl1]))
        (refine zl2 (i := 21) (v := undef) rfl (Or.inr ⟨by rfl, rfl⟩) (by assumption) ?_; (try simp only [zl1]))
        (refine zl2 (i := 22) (v := undef) rfl (Or.inr ⟨by rfl, rfl⟩) (by assumption) ?_; (try simp only [zl1]))
        (refine zl2 (i := 23) (v := undef) rfl (Or.inr ⟨by rfl, rfl⟩) (by assumption) ?_; (try simp only [zl1]))
        (refine zl3 24 ?_ rfl ?_ ?_; rotate_left; (· (rintro w ⟨c0, c1, d0, d1⟩; go_simp; try with_reducible rfl)); (try simp only [zl1]))
        refine wpAnyH_done (by kernel_rfl) ?_ _
        refine NoPanic.normal ?_
        go_wp2_with fail
        go_ret
        exact ⟨by rw [HD.out]; rfl, HW.out.drew⟩
      case pos =>
        subst hp
        go_upto_region 6 with fail
        refine wp_region_noPanic ?_
        refine wp_region_held_drew (S := fun W' => W'.cell? ⟨ab, ao + k * 2, none⟩ = some (.string xp) ∧ W'.cell? ⟨ab, ao + k * 2 + 1, none⟩ = some ar ∧ W'.cell? ⟨bb, bo + k * 2, none⟩ = some (.string xp) ∧ W'.cell? ⟨bb, bo + k * 2 + 1, none⟩ = some br) (by kernel_rfl) (HSB.out _ (Below.refl _ _).drew) (fun hS0 => ?_)
        (refine zl3 0 ?_ rfl ?_ ?_; rotate_left; (· (rintro w ⟨c0, c1, d0, d1⟩; go_simp; try with_reducible rfl)); (try simp only [zl1]))
        (refine zl3 1 ?_ rfl ?_ ?_; rotate_left; (· (rintro w ⟨c0, c1, d0, d1⟩; go_simp; try with_reducible rfl)); (try simp only [zl1]))
        (refine zl3 2 ?_ rfl ?_ ?_; rotate_left; (· (rintro w ⟨c0, c1, d0, d1⟩; go_simp; try with_reducible rfl)); (try simp only [zl1]))
        (refine zl3 3 ?_ rfl ?_ ?_; rotate_left; (· (rintro w ⟨c0, c1, d0, d1⟩; go_simp; try with_reducible rfl)); (try simp only [zl1]))
        (refine zl3 4 ?_ rfl ?_ ?_; rotate_left; (· (rintro w ⟨c0, c1, d0, d1⟩; go_simp; try with_reducible rfl)); (try simp only [zl1]))
        (refine zl3 5 ?_ rfl ?_ ?_; rotate_left; (· (rintro w ⟨c0, c1, d0, d1⟩; go_simp; try with_reducible rfl)); (try simp only [zl1]))
        (refine zl3 6 ?_ rfl ?_ ?_; rotate_left; (· (rintro w ⟨c0, c1, d0, d1⟩; go_simp; try with_reducible rfl)); (try simp only [zl1]))
        (refine zl3 7 ?_ rfl ?_ ?_; rotate_left; (· (rintro w ⟨c0, c1, d0, d1⟩; go_simp; try with_reducible rfl)); (try simp only [zl1]))
        (refine zl3 8 ?_ rfl ?_ ?_; rotate_left; (· (rintro w ⟨c0, c1, d0, d1⟩; go_simp; try with_reducible rfl)); (try simp only [zl1]))
        (refine zl3 9 ?_ rfl ?_ ?_; rotate_left; (· (rintro w ⟨c0, c1, d0, d1⟩; go_simp; try with_reducible rfl)); (try simp only [zl1]))
        (refine zl3 10 ?_ rfl ?_ ?_; rotate_left; (· (rintro w ⟨c0, c1, d0, d1⟩; go_simp; try with_reducible rfl)); (try simp only [zl1]))
        (refine zl3 11 ?_ rfl ?_ ?_; rotate_left; (· (rintro w ⟨c0, c1, d0, d1⟩; go_simp; try with_reducible rfl)); (try simp only [zl1]))
        (refine zl3 12 ?_ rfl ?_ ?_; rotate_left; (· (rintro w ⟨c0, c1, d0, d1⟩; go_simp; try with_reducible rfl)); (try simp only [zl1]))
        (refine zl3 13 ?_ rfl ?_ ?_; rotate_left; (· (rintro w ⟨c0, c1, d0, d1⟩; go_simp; try with_reducible rfl)); (try simp only [zl1]))
        (refine zl3 14 ?_ rfl ?_ ?_; rotate_left; (· (rintro w ⟨c0, c1, d0, d1⟩; go_simp; try with_reducible rfl)); (try simp only [zl1]))
        (refine zl3 15 ?_ rfl ?_ ?_; rotate_left; (· (rintro w ⟨c0, c1, d0, d1⟩; go_simp; try with_reducible rfl)); (try simp only [zl1]))
        (refine zl3 16 ?_ rfl ?_ ?_; rotate_left; (· (rintro w ⟨c0, c1, d0, d1⟩; go_simp; try with_reducible rfl)); (try simp only [zl1]))
        (refine zl3 17 ?_ rfl ?_ ?_; rotate_left; (· (rintro w ⟨c0, c1, d0, d1⟩; go_simp; try with_reducible rfl)); (try simp only [zl1]))
        (refine zl3 18 ?_ rfl ?_ ?_; rotate_left; (· (rintro w ⟨c0, c1, d0, d1⟩; go_simp; try with_reducible rfl)); (try simp only [zl1]))
        (refine zl3 19 ?_ rfl ?_ ?_; rotate_left; (· (rintro w ⟨c0, c1, d0, d1⟩; go_simp; try with_reducible rfl)); (try simp only [zl1]))
        (refine zl3 20 ?_ rfl ?_ ?_; rotate_left; (· (rintro w ⟨c0, c1, d0, d1⟩; go_simp; try with_reducible rfl)); (try simp only [zl1]))
        (refine zl3 21 ?_ rfl ?_ ?_; rotate_left; (· (rintro w ⟨c0, c1, d0, d1⟩; go_simp; try with_reducible rfl)); (try simp only [zl1]))
        refine wpAnyH_ready (rs := [22]) (by kernel_rfl) (by simp) (AllReadyH.cons rfl (fun K hK => ?_) AllReadyH.nil)
        go_simp
        refine HSM.out.mono ?_
        rintro e w6 ⟨rfl, hb6⟩
        have HB6 := Lib.hid (HWR.out.trans hb6)
        clear hS0
        have hS0 := HSB.out _ HB6.out
        refine hK.out _ _ hS0 (fun _ => ?_)
        clear hK K hb6
        (try simp only [zl1])
        obtain ⟨db, hdb⟩ : ∃ db, decide (xs = ys) = db := ⟨_, rfl⟩
        rw [hdb]
        have HDB := Lib.hid hdb
        clear hdb
        cases db
        case false =>
          (refine zl3 23 ?_ rfl ?_ ?_; rotate_left; (· (rintro w ⟨c0, c1, d0, d1⟩; go_simp; try with_reducible rfl)); (try simp only [zl1]))
          (refine zl3 24 ?_ rfl ?_ ?_; rotate_left; (· (rintro w ⟨c0, c1, d0, d1⟩; go_simp; try with_reducible rfl)); (try simp only [zl1]))
          refine wpAnyH_done (by kernel_rfl) ?_ _
          refine NoPanic.normal ?_
          have HBF := Lib.hid (HW.out.trans (HB6.out.mono hsz))
          clear hS0 HSB
          have HD := Lib.hid (HNE.out (fun e => of_decide_eq_false HDB.out (congrArg Prod.snd e)))
          go_wp2_with fail
          go_ret
          exact ⟨by rw [HD.out]; rfl, HBF.out⟩
        case true =>
          (refine zl3 23 ?_ rfl ?_ ?_; rotate_left; (· (rintro w ⟨c0, c1, d0, d1⟩; go_simp; try with_reducible rfl)); (try simp only [zl1]))
          (refine zl3 24 ?_ rfl ?_ ?_; rotate_left; (· (rintro w ⟨c0, c1, d0, d1⟩; go_simp; try with_reducible rfl)); (try simp only [zl1]))
          refine wpAnyH_done (by kernel_rfl) ?_ _
          refine NoPanic.normal ?_
          have HBF := Lib.hid (HW.out.trans (HB6.out.mono hsz))
          clear hS0 HSB
          have hw1 : wrap64 ((k : Int) + 1) = (k : Int) + 1 := wrap_succ (by omega)
          have hxy : xs = ys := of_decide_eq_true HDB.out
          have HTT : Hid (a.take (k + 1) = b.take (k + 1)) := Lib.hid (by rw [HTA.out, HTB.out, HT.out, hxy])
          clear hxy
          go_wp2_with fail
          go_roundw
          case rel => exact ⟨k + 1, hlt, by go_num, HTT, HBF⟩
          case measure => simp [intOf]; omega
end Go.Proofs.YtenfkejbndifdaaGreatDoor
