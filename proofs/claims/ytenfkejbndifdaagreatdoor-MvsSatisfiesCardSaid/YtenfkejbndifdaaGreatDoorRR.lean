/- Contracts of the reference's Has, Union, Same, and of the laws' few. -/
import Derived.Test.YtenfkejbndifdaaGreatDoorRQ
import Derived.Test.YtenfkejbndifdaaGreatDoorQF
import Derived.Test.YtenfkejbndifdaaGreatDoorQB
import Derived.Laws.AppendOwnNone
import Derived.Maps.AppendAt
namespace Go.Proofs.YtenfkejbndifdaaGreatDoor
set_option linter.unusedVariables false
set_option linter.unusedSimpArgs false
open Go Go.RowKit

def inR (p : Int) (x : Int × Int) : Bool := decide (max 0 x.1 ≤ p) && decide (p < min 1000000 x.2)
theorem any_take_yes {α : Type} {l : List α} {q : α → Bool} {x : α} (h : x ∈ l) (hx : q x = true) : l.any q = true := List.any_eq_true.2 ⟨x, h, hx⟩
theorem any_take_no {α : Type} {l : List α} {q : α → Bool} (h : ∀ x ∈ l, q x = false) : l.any q = false := by
  rw [← Bool.not_eq_true, List.any_eq_true]
  rintro ⟨x, hx, h2⟩
  rw [h x hx] at h2
  cases h2
theorem take_all_snoc {α : Type} {l : List α} {k : Nat} (hk : k < l.length) {P : α → Prop} (h : ∀ x ∈ l.take k, P x) (h2 : P l[k]) : ∀ x ∈ l.take (k + 1), P x := fun x hx => by
  rw [List.take_succ_eq_append_getElem hk] at hx
  rcases List.mem_append.1 hx with hx | hx
  · exact h x hx
  · rcases List.mem_singleton.1 hx with rfl
    exact h2
set_option maxRecDepth 100000 in
set_option maxHeartbeats 4000000 in
theorem rHas_any (v : Value) (s : List (Int × Int)) (p : Int) (w : World) (hs : s.length ≤ 1000000) (hE : SpansOf w.heap.size v s w) :
    Calls Tryz.prog 143 #[v, .int .i64 p] w fun e w' => e = .returned (.bool (hasB s p)) ∧ Below w.heap.size w w' := by
  obtain ⟨ao, ec, rfl, hE⟩ := hE
  have HE := Lib.hid hE
  clear hE
  obtain ⟨q, hq⟩ : ∃ q, hasB s p = q := ⟨_, rfl⟩
  rw [hq]
  have HQ := Lib.hid (show s.any (inR p) = q by rw [← hq]; exact hasB_ref s p)
  clear hq
  go_enter Tryz.func143, Tryz.ntmps143
  go_wp2_with fail
  go_loopw [5] (fun i wr => ∃ (k : Nat), k ≤ s.length ∧ i = .int .i64 k ∧ Hid (∀ x ∈ s.take k, inR p x = false) ∧ Hid (Below w.heap.size w wr)) (fun i _ => s.length - (intOf i).toNat)
  case atStart => exact ⟨0, by omega, rfl, Lib.hid (by simp), Lib.hid (Below.refl _ _)⟩
  case round =>
    obtain ⟨k, hk, rfl, HA, HB⟩ := hrel
    by_cases hlt : k < s.length
    · obtain ⟨b, off, rfl, hb, hc1, hc2⟩ := HE.out k s[k] (by simp [hlt])
      have hc1 := (HB.out.cell (p := ⟨b, off + k * 2, none⟩) hb).trans hc1
      have hc2 := (HB.out.cell (p := ⟨b, off + k * 2 + 1, none⟩) hb).trans hc2
      have HN := Lib.hid (fun h => take_all_snoc hlt HA.out h)
      have HY := Lib.hid (fun h => any_take_yes (q := inR p) (List.getElem_mem hlt) h)
      obtain ⟨⟨x1, x2⟩, hx⟩ : ∃ x, x = s[k] := ⟨_, rfl⟩
      rw [← hx] at hc1 hc2 HN HY
      clear hx
      simp only at hc1 hc2
      by_cases h1 : max 0 x1 ≤ p
      · by_cases h2 : p < min 1000000 x2
        · have HI := Lib.hid (HY.out (by unfold inR; simp only [h1, h2]; rfl))
          go_wp2_with fail
          go_ret
          exact ⟨by rw [← HQ.out, HI.out]; rfl, HB.out⟩
        · have HI := Lib.hid (HN.out (by unfold inR; simp only [h2]; simp))
          go_wp2_with fail
          go_roundw
          case rel => exact ⟨k + 1, by omega, by go_num, HI, HB⟩
          case measure => simp [intOf]; omega
      · have HI := Lib.hid (HN.out (by unfold inR; simp only [h1]; simp))
        go_wp2_with fail
        go_roundw
        case rel => exact ⟨k + 1, by omega, by go_num, HI, HB⟩
        case measure => simp [intOf]; omega
    · have hkk : k = s.length := by omega
      subst hkk
      rw [List.take_length] at HA
      go_wp2_with fail
      go_ret
      exact ⟨by rw [← HQ.out, any_take_no HA.out]; rfl, HB.out⟩
/-- an append of nothing. -/
theorem run_app_nothing {P : Program} {w : World} (base : Nat) (t ty e : TypeId) (i : TypeInfo) (size : Nat) (ht : P.underlying t = some (.slice e)) (hi : P.info? e = some i)
    (v : Value) (n : Nat) (xs : List Value) (hown : w.ownsRow base e size v n xs) (c : Nat) : (Builtin.append_ #[t, t] ty #[v, .slice none 0 c]).run P w = .ok v w := by
  rcases hown.2 with ⟨rfl, rfl⟩ | ⟨g, cap, cur, rfl, _, _, hnc, _⟩
  · simp [Builtin.append_, run_underlying ht, sizeOf, typeInfo, hi, Builtin.lenOf, Builtin.firstCells]
  · simp [Builtin.append_, run_underlying ht, sizeOf, typeInfo, hi, Builtin.lenOf, Builtin.firstCells, hnc, storeCells]
/-- spans that came in are appended. -/
theorem wpList_app_spans {w : World} {ops : Array Oper} {rest : List Oper} {o : Oper} {a : Act} {Q : Exit → Act → World → Prop} (hgd : o.guard = none) (s x : Operand)
    (ho : o.op = .call { callee := .builtin .append, args := #[s, x], argTypes := #[56, 56] })
    (base : Nat) (v : Value) (n : Nat) (L : List (Int × Int)) (hs : a.eval s = v) (hown : w.ownsRow base 133 2 v n (spanCells L)) (r : Value) (M : List (Int × Int)) (hx : a.eval x = r) (hM : SpansOf w.heap.size r M w)
    (hb : n + M.length ≤ 100000000) (hbase : base ≤ w.heap.size)
    (h : ∀ v' w', w'.ownsRow base 133 2 v' (n + M.length) (spanCells (L ++ M)) → w.grownBy w' v.ownBlock → wpList Tryz.prog ops Q rest (a.put o.dst v') w') : wpList Tryz.prog ops Q (o :: rest) a w := by
  obtain ⟨i0, hi, hz0, hz1, hz2⟩ := info_parts info_spans
  obtain ⟨ao, cap, rfl, hE⟩ := hM
  cases ao with
  | none =>
    have h0 : M = [] := by
      cases M with
      | nil => rfl
      | cons y M => obtain ⟨b, off, h1, _⟩ := hE 0 y rfl; cases h1
    subst h0
    refine wpList_plain hgd fun K hK => ?_
    have hrun := run_app_nothing (P := Tryz.prog) (w := w) base 56 o.type 133 i0 2 Tryz.underlying56 hi v n _ hown cap
    unfold Oper.wp
    simp [execOp, ho, resolve, invoke, builtin, hs, hx, hrun, Result.andThen]
    exact hK _ _ (h v w (by simpa using hown) (World.grownBy.refl w _))
  | some ad =>
    refine wpList_append_own _ hgd s x 56 ho base 133 i0 _ 2 16 Tryz.underlying56 hi hz0 hz1 hz2 rfl (by decide) v n _ hs hown ad M.length cap (spanCells M) hx (spanCells_length M) (fun j u hu => ?_) (spanCells_one M) (by unfold maxLen; omega) (by omega) hbase (fun v' w' h2 h3 _ => h v' w' (by rw [spanCells_append]; exact h2) h3)
    have hj := (List.getElem?_eq_some_iff.1 hu).1
    rw [spanCells_length] at hj
    have hi2 : j / 2 < M.length := by omega
    obtain ⟨b, off, h1, _, h2, h3⟩ := hE (j / 2) M[j / 2] (by simp [hi2])
    obtain ⟨g1, g2⟩ := spanCells_get M (j / 2) M[j / 2] (by simp [hi2])
    cases h1
    have e0 : (⟨b, off, none⟩ : Addr).add j = ⟨b, off + j, none⟩ := by unfold Addr.add; split <;> simp_all
    rw [e0]
    rcases Nat.mod_two_eq_zero_or_one j with hm | hm
    · have ej : j / 2 * 2 = j := by omega
      rw [ej] at g1 h2
      rw [hu] at g1
      rw [h2, g1]
    · have ej : j / 2 * 2 + 1 = j := by omega
      rw [ej] at g2
      rw [Nat.add_assoc, ej] at h3
      rw [hu] at g2
      rw [h3, g2]
theorem flat_len (l : List (List (Int × Int))) (C : Nat) (h : ∀ s ∈ l, s.length ≤ C) : l.flatten.length ≤ l.length * C := by
  induction l with
  | nil => simp
  | cons s l ih =>
    have h1 := h s (by simp)
    have h2 := ih fun t ht => h t (by simp [ht])
    rw [List.flatten_cons, List.length_append, List.length_cons, Nat.add_mul]
    omega
set_option maxRecDepth 100000 in
set_option maxHeartbeats 4000000 in
theorem rUnion_any (v : Value) (l : List (List (Int × Int))) (w : World) (hl : l.length ≤ 100) (hs : ∀ s ∈ l, s.length ≤ 1000) (hS : SetsOf w.heap.size v l w) :
    Calls Tryz.prog 131 #[v] w fun e w' => ∃ v', e = .returned v' ∧ SpansOf w'.heap.size v' (unionS l) w' ∧ Below w.heap.size w w' := by
  obtain ⟨ao, ec, rfl, hS⟩ := hS
  have HS := Lib.hid hS
  have HL := Lib.hid hs
  have HR := Lib.hid (flat_union l)
  generalize unionS l = r at *
  clear hS hs
  go_enter Tryz.func131, Tryz.ntmps131
  go_wp2_with fail
  go_loopw [3, 4] (fun o p wr => ∃ (k : Nat), k ≤ l.length ∧ p = .int .i64 k ∧ Hid (wr.ownsRow w.heap.size 133 2 o (l.take k).flatten.length (spanCells (l.take k).flatten)) ∧ Hid (Below w.heap.size w wr)) (fun _ p _ => l.length - (intOf p).toNat)
  case atStart => exact ⟨0, by omega, rfl, Lib.hid (World.ownsRow_made w #[] 0 (Nat.le_refl _) (by decide) rfl), Lib.hid ((Below.refl _ _).alloc (Nat.le_refl _) _)⟩
  case round =>
    obtain ⟨k, hk, rfl, HO, HB⟩ := hrel
    have hszr := HB.out.size
    have hfl := flat_len (l.take k) 1000 (fun s hs => HL.out s (List.mem_of_mem_take hs))
    rw [List.length_take, Nat.min_eq_left hk] at hfl
    by_cases hlt : k < l.length
    · obtain ⟨b, off, r1, rfl, hb, hc1, hE1⟩ := HS.out k l[k] (by simp [hlt])
      have hc1 := (HB.out.cell (p := ⟨b, off + k, none⟩) hb).trans hc1
      have HE1 := Lib.hid ((hE1.below HB.out (Nat.le_refl _)).mono hszr)
      have HT : Hid ((l.take (k + 1)).flatten = (l.take k).flatten ++ l[k]) := Lib.hid (by rw [List.take_succ_eq_append_getElem hlt, List.flatten_append, List.flatten_cons, List.flatten_nil, List.append_nil])
      have hx := HL.out l[k] (List.getElem_mem hlt)
      generalize l[k] = x at *
      generalize (l.take k).flatten = L at *
      clear hE1
      go_wp2_with (at_builtin; refine wpList_app_spans rfl _ _ rfl w.heap.size u3 L.length L (by rfl) HO.out r1 x (by rfl) HE1.out (by omega) hszr ?_; intro v' w3 hown' hgrow; have HOW := Lib.hid hown'; have HBW := Lib.hid (HB.out.grown hgrow hszr (fun b hb => (HO.out.lt b hb).1)); clear hown' hgrow)
      go_roundw
      case rel =>
        refine ⟨k + 1, by omega, by go_num, Lib.hid ?_, HBW⟩
        rw [HT.out, List.length_append]
        exact HOW.out
      case measure => simp [intOf]; omega
    · have hkk : k = l.length := by omega
      subst hkk
      rw [List.take_length] at HO hfl
      have HC := Lib.hid (rCanonical_any u3 l.flatten wr (by omega) (own_spans HO.out))
      rw [HR.out] at HC
      clear hfl
      go_wp2_with fail
      (with_reducible refine HC.out.mono ?_)
      rintro e w1 ⟨v1, rfl, hE1, hb1⟩
      have HE1 := Lib.hid hE1
      have HB1 := Lib.hid (HB.out.trans (hb1.mono hszr))
      clear hE1 hb1
      go_wp2_with fail
      go_ret
      exact ⟨_, rfl, HE1.out, HB1.out⟩
/-- few sets with few spans. -/
def fewB (l : List (List (Int × Int))) : Bool := (l.all fun s => decide (s.length ≤ 30)) && decide (l.length ≤ 6)
theorem fewB_yes {l : List (List (Int × Int))} (h : fewB l = true) : (∀ s ∈ l, s.length ≤ 30) ∧ l.length ≤ 6 := by
  unfold fewB at h
  simpa using h
set_option maxRecDepth 100000 in
set_option maxHeartbeats 4000000 in
theorem SameS_any (v u : Value) (a b : List (Int × Int)) (w : World) (ha : a.length ≤ 1000000000) (hb : b.length ≤ 1000000000) (hE : SpansOf w.heap.size v a w) (hF : SpansOf w.heap.size u b w) :
    Calls Tryz.prog 91 #[v, u] w fun e w' => e = .returned (.bool (decide (a = b))) ∧ Below w.heap.size w w' := by
  obtain ⟨ao, ec, rfl, hE⟩ := hE
  obtain ⟨bo, fc, rfl, hF⟩ := hF
  have HE := Lib.hid hE
  have HF := Lib.hid hF
  clear hE hF
  obtain ⟨q, hq⟩ : ∃ q, decide (a = b) = q := ⟨_, rfl⟩
  rw [hq]
  have HQ := Lib.hid hq
  clear hq
  by_cases hl : a.length = b.length
  · have hl2 : ((a.length : Int) == (b.length : Int)) = true := by simp [hl]
    have hl3 : ((a.length : Int) != (b.length : Int)) = false := by simp [hl]
    have HLN := Lib.hid hl
    clear hl
    go_enter Tryz.func91, Tryz.ntmps91
    go_wp2_with fail
    go_loopw [5] (fun i wr => ∃ (k : Nat), k ≤ a.length ∧ i = .int .i64 k ∧ Hid (a.take k = b.take k) ∧ Hid (Below w.heap.size w wr)) (fun i _ => a.length - (intOf i).toNat)
    case atStart => exact ⟨0, by omega, rfl, Lib.hid (by simp), Lib.hid (Below.refl _ _)⟩
    case round =>
      obtain ⟨k, hk, rfl, HA, HB⟩ := hrel
      by_cases hlt : k < a.length
      · have hlt2 : k < b.length := by rw [← HLN.out]; exact hlt
        obtain ⟨b1, o1, rfl, hb1, hc1, hc2⟩ := HE.out k a[k] (by simp [hlt])
        obtain ⟨b2, o2, rfl, hb2, hd1, hd2⟩ := HF.out k b[k] (by simp [hlt2])
        have hc1 := (HB.out.cell (p := ⟨b1, o1 + k * 2, none⟩) hb1).trans hc1
        have hc2 := (HB.out.cell (p := ⟨b1, o1 + k * 2 + 1, none⟩) hb1).trans hc2
        have hd1 := (HB.out.cell (p := ⟨b2, o2 + k * 2, none⟩) hb2).trans hd1
        have hd2 := (HB.out.cell (p := ⟨b2, o2 + k * 2 + 1, none⟩) hb2).trans hd2
        have HT1 := Lib.hid (List.take_succ_eq_append_getElem hlt)
        have HT2 := Lib.hid (List.take_succ_eq_append_getElem hlt2)
        have HG : Hid (a = b → a[k] = b[k]) := Lib.hid (fun h => by subst h; rfl)
        obtain ⟨⟨x1, x2⟩, hx⟩ : ∃ x, x = a[k] := ⟨_, rfl⟩
        obtain ⟨⟨y1, y2⟩, hy⟩ : ∃ y, y = b[k] := ⟨_, rfl⟩
        rw [← hx] at hc1 hc2 HT1 HG
        rw [← hy] at hd1 hd2 HT2 HG
        clear hx hy
        simp only at hc1 hc2 hd1 hd2
        by_cases h1 : x1 = y1 ∧ x2 = y2
        · obtain ⟨rfl, rfl⟩ := h1
          go_wp2_with fail
          try go_region
          all_goals
            go_wp2_with fail
            go_roundw
            case rel => exact ⟨k + 1, by omega, by go_num, Lib.hid (by rw [HT1.out, HT2.out, HA.out]), by first | exact HB | exact Lib.hid HB.out.drew | (refine Lib.hid ?_; have := HB.out; exact this)⟩
            case measure => simp [intOf]; omega
        · have HNE : Hid (q = false) := Lib.hid (by
            rw [← HQ.out]
            exact decide_eq_false fun h => h1 (by have := HG.out h; exact Prod.mk.inj this))
          rcases Classical.not_and_iff_not_or_not.1 h1 with h2 | h2
          all_goals
            clear h1
            go_wp2_with fail
            try go_region
            all_goals
              go_wp2_with fail
              go_ret
              exact ⟨by rw [HNE.out]; rfl, by first | exact HB.out | exact HB.out.drew⟩
      · have hkk : k = a.length := by omega
        subst hkk
        have HAB : Hid (q = true) := Lib.hid (by
          rw [← HQ.out]
          have := HA.out
          rw [List.take_length, HLN.out, List.take_length] at this
          exact decide_eq_true this)
        go_wp2_with fail
        go_ret
        exact ⟨by rw [HAB.out]; rfl, HB.out⟩
  · have hl2 : ((a.length : Int) == (b.length : Int)) = false := by simp; omega
    have hl3 : ((a.length : Int) != (b.length : Int)) = true := by simp; omega
    have HNE : Hid (q = false) := Lib.hid (by rw [← HQ.out]; exact decide_eq_false fun h => hl (by rw [h]))
    clear hl
    go_enter Tryz.func91, Tryz.ntmps91
    go_wp2_with fail
    go_ret
    exact ⟨by rw [HNE.out]; rfl, Below.refl _ _⟩
end Go.Proofs.YtenfkejbndifdaaGreatDoor
