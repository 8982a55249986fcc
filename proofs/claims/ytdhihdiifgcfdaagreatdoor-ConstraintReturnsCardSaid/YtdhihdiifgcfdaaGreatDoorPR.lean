/- Contracts of the constraint's Least, Greatest, AtLeast and Upward. What ConstraintOrder says, plain. ConstraintReturns returns true at every input. -/
import Derived.Test.YtdhihdiifgcfdaaGreatDoorCCanon1
import Derived.Test.YtdhihdiifgcfdaaGreatDoorCPlainSets
import Derived.Test.YtdhihdiifgcfdaaGreatDoorCPlace
import Derived.Test.YtdhihdiifgcfdaaGreatDoorCLawKit
import Derived.Test.YtdhihdiifgcfdaaGreatDoorCSets
import Derived.Test.YtdhihdiifgcfdaaGreatDoorCPlainFmt
namespace Go.Proofs.YtdhihdiifgcfdaaGreatDoor
set_option linter.unusedVariables false
set_option linter.unusedSimpArgs false
open Go Go.RowKit

/-- the least and the greatest place of a set; whether it is closed upward. -/
def leastV (s : List (Int × Int)) : Int × Bool := match canon s with
  | [] => (0, false)
  | x :: _ => (x.1, true)
def greatV (s : List (Int × Int)) : Int × Bool := match (canon s).getLast? with
  | none => (0, false)
  | some x => (x.2 - 1, true)
def upB (c : List (Int × Int)) : Bool := match c with
  | [] => true
  | [x] => decide (x.2 = 1000000)
  | _ => false
theorem can_mem {s : List (Int × Int)} {x : Int × Int} (h : x ∈ canon s) : 0 ≤ x.1 ∧ x.1 < x.2 ∧ x.2 ≤ 1000000 := (canon_can s).2 x h
/-- a first span in memory. -/
theorem edges_head {B : Nat} {ao : Option Addr} {n cap : Nat} {x : Int × Int} {t : List (Int × Int)} {W : World} (h : EdgesOf B (.slice ao n cap) (x :: t) W) :
    ∃ b off, ao = some ⟨b, off, none⟩ ∧ W.cell? ⟨b, off, none⟩ = some (intC x.1) ∧ W.cell? ⟨b, off + 1, none⟩ = some (intC x.2) := by
  obtain ⟨ao', cap', hv, h⟩ := h
  cases hv
  obtain ⟨b, off, rfl, _, h1, h2⟩ := h 0 x rfl
  simp only [Nat.zero_mul, Nat.add_zero] at h1 h2
  exact ⟨b, off, rfl, h1, h2⟩
theorem edges_len {B : Nat} {v : Value} {es : List (Int × Int)} {W : World} (h : EdgesOf B v es W) : ∃ ao cap, v = .slice ao es.length cap := by
  obtain ⟨ao, cap, rfl, _⟩ := h
  exact ⟨ao, cap, rfl⟩
set_option maxRecDepth 100000 in
theorem Least_any (v : Value) (s : List (Int × Int)) (w : World) (hs : s.length ≤ 1000000000) (hE : EdgesOf w.heap.size v s w) :
    Calls Tryz.prog 21 #[v] w fun e w' => e = .returned (.tuple #[.int .i64 (leastV s).1, .bool (leastV s).2]) ∧ Below w.heap.size w w' := by
  have HC := Lib.hid (Canonical_any v s w hs hE)
  obtain ⟨l, hl⟩ : ∃ l, leastV s = l := ⟨_, rfl⟩
  have HL := Lib.hid hl
  rw [hl]
  unfold leastV at hl
  have hlen := canon_len s
  clear hE
  cases hc : canon s with
  | nil =>
    rw [hc] at HC hl
    subst hl
    clear hc HL
    go_enter Tryz.func21, Tryz.ntmps21
    go_wp2_with fail
    (with_reducible refine HC.out.mono ?_)
    rintro e w' ⟨v', rfl, hE', hb⟩
    obtain ⟨ao, cap, rfl⟩ := edges_len hE'
    clear hE'
    simp only [List.length_nil]
    go_wp2_with fail
    go_ret2
    exact ⟨rfl, hb⟩
  | cons x t =>
    rw [hc] at HC hl hlen
    subst hl
    clear hc HL
    go_enter Tryz.func21, Tryz.ntmps21
    go_wp2_with fail
    (with_reducible refine HC.out.mono ?_)
    rintro e w' ⟨v', rfl, hE', hb⟩
    obtain ⟨ao, cap, rfl⟩ := edges_len hE'
    obtain ⟨b, off, rfl, h1, h2⟩ := edges_head hE'
    have hn : 0 < (x :: t).length := by simp
    generalize (x :: t).length = n at *
    have hn2 : (0 : Int) < (n : Int) := by omega
    clear hE'
    go_wp2_with fail
    go_ret2
    exact ⟨rfl, hb⟩
set_option maxRecDepth 100000 in
theorem Greatest_any (v : Value) (s : List (Int × Int)) (w : World) (hs : s.length ≤ 1000000000) (hE : EdgesOf w.heap.size v s w) :
    Calls Tryz.prog 23 #[v] w fun e w' => e = .returned (.tuple #[.int .i64 (greatV s).1, .bool (greatV s).2]) ∧ Below w.heap.size w w' := by
  have HC := Lib.hid (Canonical_any v s w hs hE)
  obtain ⟨l, hl⟩ : ∃ l, greatV s = l := ⟨_, rfl⟩
  have HL := Lib.hid hl
  rw [hl]
  unfold greatV at hl
  have hlen := canon_len s
  clear hE
  rcases List.eq_nil_or_concat (canon s) with hc | ⟨pre, y, hc⟩
  · rw [hc] at HC hl
    subst hl
    clear hc HL
    go_enter Tryz.func23, Tryz.ntmps23
    go_wp2_with fail
    (with_reducible refine HC.out.mono ?_)
    rintro e w' ⟨v', rfl, hE', hb⟩
    obtain ⟨ao, cap, rfl⟩ := edges_len hE'
    clear hE'
    simp only [List.length_nil]
    go_wp2_with fail
    go_ret2
    exact ⟨rfl, hb⟩
  · rw [List.concat_eq_append] at hc
    have hy := can_mem (s := s) (x := y) (by rw [hc]; simp)
    rw [hc] at HC hl hlen
    rw [List.getLast?_concat] at hl
    subst hl
    clear hc HL
    obtain ⟨y1, y2⟩ := y
    simp only at hy
    rw [List.length_append, List.length_singleton] at hlen
    go_enter Tryz.func23, Tryz.ntmps23
    go_wp2_with fail
    (with_reducible refine HC.out.mono ?_)
    rintro e w' ⟨v', rfl, ⟨ao, cap, rfl, hE'⟩, hb⟩
    obtain ⟨b, off, rfl, _, h1, h2⟩ := hE' pre.length (y1, y2) (by simp)
    clear hE'
    rw [List.length_append, List.length_singleton]
    have hn1 : IntKind.i64.wrap (((pre.length + 1 : Nat) : Int) - 1) = (pre.length : Int) := by rw [IntWalk.i64_in _ (by omega)]; omega
    have hn2 : IntKind.i64.wrap ((pre.length : Int) + 1 - 1) = (pre.length : Int) := by rw [IntWalk.i64_in _ (by omega)]; omega
    have hn4 : (0 : Int) ≤ (pre.length : Int) := by omega
    have hn5 : (0 : Int) < (pre.length : Int) + 1 := by omega
    go_wp2_with fail
    go_ret2
    exact ⟨rfl, hb⟩
set_option maxRecDepth 100000 in
theorem AtLeast_any (p : Int) (w : World) :
    Calls Tryz.prog 25 #[.int .i64 p] w fun e w' => ∃ v', e = .returned v' ∧ EdgesOf w'.heap.size v' (canon [(p, 1000000)]) w' ∧ Below w.heap.size w w' := by
  have HC := Lib.hid (Canonical_any (.slice (some ⟨w.heap.size, 0, none⟩) 1 1) [(p, 1000000)] (w.alloc (.cells #[intC p, intC 1000000] 49)) (by simp) ⟨_, _, rfl, fun i x hx => by
    have hi : i = 0 := by have := (List.getElem?_eq_some_iff.1 hx).1; simpa using this
    subst hi
    cases hx
    exact ⟨w.heap.size, 0, rfl, by simp, by simp [go_sem], by simp [go_sem]⟩⟩)
  go_enter Tryz.func25, Tryz.ntmps25
  go_wp2_with fail
  (with_reducible refine HC.out.mono ?_)
  rintro e w' ⟨v', rfl, hE', hb⟩
  have HE := Lib.hid hE'
  have HB := Lib.hid hb
  clear hE' hb
  go_wp2_with fail
  go_ret
  exact ⟨_, rfl, HE.out, ((Below.refl _ _).alloc (Nat.le_refl _) _).trans (HB.out.mono (by simp))⟩
set_option maxRecDepth 100000 in
theorem Upward_any (v : Value) (s : List (Int × Int)) (w : World) (hs : s.length ≤ 1000000000) (hE : EdgesOf w.heap.size v s w) :
    Calls Tryz.prog 27 #[v] w fun e w' => e = .returned (.bool (upB (canon s))) ∧ Below w.heap.size w w' := by
  have HC := Lib.hid (Canonical_any v s w hs hE)
  have hlen := canon_len s
  clear hE
  generalize canon s = c at *
  match c with
  | [] =>
    show Calls _ _ _ _ fun e w' => e = .returned (.bool true) ∧ _
    go_enter Tryz.func27, Tryz.ntmps27
    go_wp2_with fail
    (with_reducible refine HC.out.mono ?_)
    rintro e w' ⟨v', rfl, hE', hb⟩
    obtain ⟨ao, cap, rfl⟩ := edges_len hE'
    clear hE'
    simp only [List.length_nil]
    go_wp2_with fail
    go_ret
    exact ⟨rfl, hb⟩
  | [x] =>
    show Calls _ _ _ _ fun e w' => e = .returned (.bool (decide (x.2 = 1000000))) ∧ _
    obtain ⟨x1, x2⟩ := x
    go_enter Tryz.func27, Tryz.ntmps27
    go_wp2_with fail
    (with_reducible refine HC.out.mono ?_)
    rintro e w' ⟨v', rfl, hE', hb⟩
    obtain ⟨ao, cap, rfl⟩ := edges_len hE'
    obtain ⟨b, off, rfl, h1, h2⟩ := edges_head hE'
    clear hE'
    simp only [List.length_singleton]
    by_cases hx : x2 = 1000000
    · subst hx
      go_wp2_with fail
      go_ret
      exact ⟨rfl, hb⟩
    · have hx2 : (x2 == 1000000) = false := by simpa using hx
      go_wp2_with fail
      go_ret
      exact ⟨by simp [hx], hb⟩
  | x :: y :: t =>
    show Calls _ _ _ _ fun e w' => e = .returned (.bool false) ∧ _
    go_enter Tryz.func27, Tryz.ntmps27
    go_wp2_with fail
    (with_reducible refine HC.out.mono ?_)
    rintro e w' ⟨v', rfl, hE', hb⟩
    obtain ⟨ao, cap, rfl⟩ := edges_len hE'
    have hn : 1 < (x :: y :: t).length := by simp
    generalize (x :: y :: t).length = n at *
    have hn1 : ((n : Int) == 0) = false := by simp; omega
    have hn2 : ((n : Int) == 1) = false := by simp; omega
    clear hE'
    go_wp2_with fail
    go_ret
    exact ⟨rfl, hb⟩
end Go.Proofs.YtdhihdiifgcfdaaGreatDoor

namespace Go.Proofs.YtdhihdiifgcfdaaGreatDoor
set_option linter.unusedVariables false
set_option linter.unusedSimpArgs false
open Go

theorem cmpI_lt (a b : Int) : (cmpI a b < 0 ↔ a < b) ∧ (0 < cmpI a b ↔ b < a) ∧ (cmpI a b = 0 ↔ a = b) := by
  unfold cmpI
  split
  · omega
  · split <;> omega
theorem place_ok {a b c p : Int} (h : placeV a b c = (p, 0)) : validB a b c = true ∧ p = 1000 * b + c := by
  unfold placeV at h
  split at h
  · rename_i hv
    exact ⟨hv, ((Prod.mk.inj h).1).symm⟩
  · exact absurd (Prod.mk.inj h).2 (by decide)
theorem place_err (a b c : Int) : (placeV a b c).2 = 0 ∨ (placeV a b c).2 = 2 := by
  unfold placeV
  split <;> simp
/-- places are compared as versions of one major version. -/
theorem cmp_place {a b c y z p q : Int} (h1 : placeV a b c = (p, 0)) (h2 : placeV a y z = (q, 0)) : decide (cmpV a b c a y z < 0) = decide (p < q) ∧ decide (0 < cmpV a b c a y z) = decide (q < p) := by
  obtain ⟨v1, rfl⟩ := place_ok h1
  obtain ⟨v2, rfl⟩ := place_ok h2
  obtain ⟨⟨a0, a1⟩, ⟨b0, b1⟩, c0, c1⟩ := valid_le v1
  obtain ⟨_, ⟨y0, y1⟩, z0, z1⟩ := valid_le v2
  have ha := cmpI_lt a a
  have hb := cmpI_lt b y
  have hc := cmpI_lt c z
  have e : cmpV a b c a y z = if cmpI b y ≠ 0 then cmpI b y else cmpI c z := by
    unfold cmpV
    rw [if_neg (by rw [ne_eq, ha.2.2.2 rfl]; simp)]
  rw [e, decide_eq_decide, decide_eq_decide]
  by_cases h0 : cmpI b y = 0
  · rw [if_neg (by rw [h0]; simp)]
    have := hb.2.2.1 h0
    subst this
    rw [hc.1, hc.2.1]
    omega
  · rw [if_pos h0, hb.1, hb.2.1]
    have : b ≠ y := fun e => h0 (hb.2.2.2 e)
    omega
/-- At inverts Place. -/
theorem at_place {a b c p : Int} (h : placeV a b c = (p, 0)) : atV a p = ((a, b, c), 0) := by
  obtain ⟨hv, rfl⟩ := place_ok h
  obtain ⟨⟨a0, a1⟩, ⟨b0, b1⟩, c0, c1⟩ := valid_le hv
  unfold atV
  rw [if_pos ⟨by unfold partB; simp; omega, by omega, by omega⟩, show (1000 * b + c) / 1000 = b by omega, show (1000 * b + c) % 1000 = c by omega]
/-- the ends of a set that is not empty. -/
theorem ends_yes {s : List (Int × Int)} {l : Int} (h : leastV s = (l, true)) : ∃ g, greatV s = (g, true) ∧ l ≤ g ∧ 0 ≤ l ∧ l < 1000000 ∧ hasB s l = true ∧ hasB s g = true ∧ hasB s (l - 1) = false ∧ upB (canon s) = decide (canon [(l, 1000000)] = canon s) := by
  have hc := canon_can s
  have hin := canon_in s
  unfold leastV at h
  unfold greatV
  cases e : canon s with
  | nil => rw [e] at h; exact absurd (Prod.mk.inj h).2 (by decide)
  | cons x t =>
    rw [e] at h hc hin
    obtain rfl := (Prod.mk.inj h).1
    obtain ⟨hx, hxt, hct⟩ := can_cons.1 hc
    have hlast : ∃ y, (x :: t).getLast? = some y ∧ y ∈ x :: t := by
      rcases List.eq_nil_or_concat (x :: t) with e2 | ⟨p, y, e2⟩
      · cases e2
      · rw [List.concat_eq_append] at e2
        exact ⟨y, by rw [e2, List.getLast?_concat], by rw [e2]; simp⟩
    obtain ⟨y, hy, hym⟩ := hlast
    have hyb := hc.2 y hym
    have hxy : x.1 ≤ y.1 := by
      rcases List.mem_cons.1 hym with rfl | h2
      · exact Int.le_refl _
      · have := hxt y h2; omega
    rw [hy]
    refine ⟨y.2 - 1, rfl, by omega, hx.1, by omega, ?_, ?_, ?_, ?_⟩
    · rw [hasB_iff]
      exact (hin x.1).1 ⟨x, by simp, Int.le_refl _, hx.2.1⟩
    · rw [hasB_iff]
      exact (hin (y.2 - 1)).1 ⟨y, hym, by omega, by omega⟩
    · rw [← Bool.not_eq_true, hasB_iff]
      intro h3
      obtain ⟨z, hz, h4⟩ := (hin (x.1 - 1)).2 h3
      rcases List.mem_cons.1 hz with rfl | hz
      · omega
      · have := hxt z hz; omega
    · have hone : canon [(x.1, 1000000)] = [(x.1, 1000000)] := canon_of_can (can_cons.2 ⟨⟨hx.1, by show x.1 < 1000000; omega, Int.le_refl _⟩, fun y hy => (List.not_mem_nil hy).elim, can_nil⟩)
      rw [hone]
      cases t with
      | nil =>
        show decide (x.2 = 1000000) = _
        rw [decide_eq_decide]
        constructor
        · intro h2
          rw [show x = (x.1, 1000000) from Prod.ext rfl h2]
        · intro h2
          rw [← (List.cons.inj h2).1]
      | cons z t =>
        show false = _
        symm
        exact decide_eq_false (fun h2 => by cases (List.cons.inj h2).2)
theorem ends_no {s : List (Int × Int)} {l : Int} (h : leastV s = (l, false)) : canon s = [] := by
  unfold leastV at h
  cases e : canon s with
  | nil => rfl
  | cons x t => rw [e] at h; exact absurd (Prod.mk.inj h).2 (by decide)
end Go.Proofs.YtdhihdiifgcfdaaGreatDoor

namespace Go.Proofs.YtdhihdiifgcfdaaGreatDoor
set_option linter.unusedVariables false
set_option linter.unusedSimpArgs false
open Go Go.RowKit

set_option maxRecDepth 100000 in
set_option maxHeartbeats 64000000 in
theorem ConstraintReturns_any (v : Value) (s : List (Int × Int)) (a b c : Int) (w : World) (hm : EnvOk w) (hE : EdgesOf w.heap.size v s w) :
    Calls Tryz.prog 7 #[v, .agg #[.int .i64 a, .int .i64 b, .int .i64 c]] w fun e w' => e = .returned (.bool true) ∧ Below w.heap.size w w' := by
  have hb00 := bel1 w (.cells #[.int .i64 a, .int .i64 b, .int .i64 c] 23)
  have HA := Lib.hid (cawake_any _ (hm.below hb00))
  have HN := Lib.hid (hm.below hb00)
  have HV := Lib.hid (hE.on hb00)
  have HX := Lib.hid (VBox.new w a b c)
  have HB := Lib.hid hb00
  obtain ⟨ao, ec, rfl, _⟩ := hE
  clear hm hb00
  by_cases h30 : 30 < s.length
  · have h30i : (30 : Int) < (s.length : Int) := by omega
    go_enter Tryz.func7, Tryz.ntmps7
    go_wp2_with fail
    (with_reducible refine HA.out.mono ?_)
    rintro e w1 ⟨rfl, hb⟩
    replace HB := Lib.hid (belT HB.out hb)
    clear hb
    go_wp2_with fail
    go_ret
    exact ⟨rfl, HB.out⟩
  · have h30i : ¬ (30 : Int) < (s.length : Int) := by omega
    have hcl : (canon s).length ≤ 30 := Nat.le_trans (canon_len _) (by omega)
    obtain ⟨hf0, hpf⟩ := parse_formatC (m := 7) (by decide) s (by omega)
    have H1 := Lib.hid (fun (W : World) (hn : EnvOk W) (h : EdgesOf W.heap.size (.slice ao s.length ec) s W) => cFormat_any _ s 7 W hn.2 (by omega) h)
    have H3 := Lib.hid (fun (W : World) (x : Value) (hn : EnvOk W) (h : EdgesOf W.heap.size x (canon s) W) => cFormat_any x (canon s) 7 W hn.2 (by omega) h)
    rw [format_canon] at H3
    obtain ⟨⟨ft, fe⟩, hf⟩ : ∃ q, formatC 7 s = q := ⟨_, rfl⟩
    rw [hf] at H1 H3 hf0 hpf
    simp only at hf0 hpf
    subst hf0
    obtain ⟨tb, htb⟩ : ∃ tb : ByteArray, (⟨ft.toArray⟩ : ByteArray) = tb := ⟨_, rfl⟩
    have htl : tb.data.toList = ft := by rw [← htb]
    have H2 := Lib.hid (fun W (h : EnvOk W) => cParse_any tb 7 W h.1)
    rw [htl, hpf] at H2
    unfold StrErr at H1 H3
    simp only [htb] at H1 H3
    have H4 := Lib.hid (fun (W : World) (h : EdgesOf W.heap.size (.slice ao s.length ec) s W) => Canonical_any _ s W (by omega) h)
    have H5 := Lib.hid (fun (W : World) (x y : Value) (h : EdgesOf W.heap.size x (canon s) W) (h2 : EdgesOf W.heap.size y (canon s) W) => Same_yes _ x y W (by omega) h h2)
    generalize canon s = cs at *
    clear hf hpf htb htl hcl
    by_cases hv : validB a b c = true
    · have H6 := Lib.hid (fun W => Place_any a b c W)
      rw [show placeV a b c = (1000 * b + c, 0) by unfold placeV; rw [if_pos hv]] at H6
      have H7 := Lib.hid (fun W (h : EnvOk W) => Format_any a b c W h.2)
      rw [show formatV a b c = (fmtL a b c, 0) by unfold formatV; rw [if_pos hv]] at H7
      simp only at H6 H7
      obtain ⟨q1, q2, q3⟩ := parse_vers hv
      have hfl := fmt_len hv
      obtain ⟨⟨a0, a1⟩, ⟨b0, b1⟩, c0', c1'⟩ := valid_le hv
      obtain ⟨fb, hfb⟩ : ∃ fb : ByteArray, (⟨(fmtL a b c).toArray⟩ : ByteArray) = fb := ⟨_, rfl⟩
      have hftl : fb.data.toList = fmtL a b c := by rw [← hfb]
      have hfs : fb.size ≤ 11 := by rw [Lib.size_eq, hftl]; exact hfl
      have H8 := Lib.hid (fun W (h : EnvOk W) => cParse_any fb a W h.1)
      have H9 := Lib.hid (fun W (h : EnvOk W) => cParse_any (⟨#[94]⟩ ++ fb) a W h.1)
      have H10 := Lib.hid (fun W (h : EnvOk W) => cParse_any (⟨#[126]⟩ ++ fb) a W h.1)
      rw [hftl, q1] at H8
      rw [ByteArray.data_append, Array.toList_append, hftl, show (⟨#[94]⟩ : ByteArray).data.toList ++ fmtL a b c = 94 :: fmtL a b c from rfl, q2] at H9
      rw [ByteArray.data_append, Array.toList_append, hftl, show (⟨#[126]⟩ : ByteArray).data.toList ++ fmtL a b c = 126 :: fmtL a b c from rfl, q3] at H10
      rw [hfb] at H7
      have n1 : ¬ 9223372036854775807 < 1 + fb.size := by omega
      have n2 : ¬ 9223372036854775806 < fb.size := by omega
      have n3 : ¬ 9223372036854775807 < (⟨#[94]⟩ : ByteArray).size + fb.size := by have : (⟨#[94]⟩ : ByteArray).size = 1 := rfl; omega
      have n4 : ¬ 9223372036854775807 < (⟨#[126]⟩ : ByteArray).size + fb.size := by have : (⟨#[126]⟩ : ByteArray).size = 1 := rfl; omega
      have hca : (canon [(1000 * b + c, 1000000)]).length ≤ 1 := canon_len _
      have hmin : (minusS (canon [(1000 * b + c, 1000000)]) [(1000 * b + 1000, 1000000)]).length ≤ 1000000 := by
        have h1 := complS_len [(1000 * b + 1000, 1000000)]
        have h2 := inter_len [canon [(1000 * b + c, 1000000)], complS [(1000 * b + 1000, 1000000)]] 10 (fun s hs => by
          rcases List.mem_cons.1 hs with rfl | hs
          · omega
          · rcases List.mem_singleton.1 hs with rfl
            simp only [List.length_cons, List.length_nil] at h1
            omega)
        unfold minusS
        simp only [List.length_cons, List.length_nil] at h2
        omega
      have H11 := Lib.hid (fun (W : World) (x y : Value) (h : EdgesOf W.heap.size x [(1000 * b + c, 1000 * b + c + 1)] W) (h2 : EdgesOf W.heap.size y [(1000 * b + c, 1000 * b + c + 1)] W) => Same_yes _ x y W (by simp) h h2)
      have H12 := Lib.hid (fun W => AtLeast_any (1000 * b + c) W)
      have H13 := Lib.hid (fun (W : World) (x y : Value) (h : EdgesOf W.heap.size x (canon [(1000 * b + c, 1000000)]) W) (h2 : EdgesOf W.heap.size y (canon [(1000 * b + c, 1000000)]) W) => Same_yes _ x y W (by omega) h h2)
      have H14 := Lib.hid (fun (W : World) (x y : Value) (h : EdgesOf W.heap.size x (canon [(1000 * b + c, 1000000)]) W) (h2 : EdgesOf W.heap.size y [(1000 * b + 1000, 1000000)] W) => Minus_any x y _ _ W (by omega) (by simp) h h2)
      have H15 := Lib.hid (fun (W : World) (x y : Value) (h : EdgesOf W.heap.size x (minusS (canon [(1000 * b + c, 1000000)]) [(1000 * b + 1000, 1000000)]) W) (h2 : EdgesOf W.heap.size y (minusS (canon [(1000 * b + c, 1000000)]) [(1000 * b + 1000, 1000000)]) W) => Same_yes _ x y W hmin h h2)
      generalize minusS (canon [(1000 * b + c, 1000000)]) [(1000 * b + 1000, 1000000)] = mi at *
      generalize canon [(1000 * b + c, 1000000)] = cu at *
      clear hv q1 q2 q3 hfl hfb hftl hca hmin
      go_enter Tryz.func7, Tryz.ntmps7
      go_wp2_with fail
      (with_reducible refine (HA.out).mono ?_)
      rintro e w1 ⟨rfl, hb⟩
      replace HV := Lib.hid (HV.out.on hb)
      replace HN := Lib.hid (HN.out.below hb)
      replace HX := Lib.hid (HX.out.below hb)
      replace HB := Lib.hid (belT HB.out hb)
      clear hb
      go_wp2_with fail
      (with_reducible refine (H1.out _ HN.out HV.out).mono ?_)
      rintro e w2 ⟨rfl, hb⟩
      replace HV := Lib.hid (HV.out.on hb)
      replace HN := Lib.hid (HN.out.below hb)
      replace HX := Lib.hid (HX.out.below hb)
      replace HB := Lib.hid (belT HB.out hb)
      clear hb
      go_wp2_with fail
      (with_reducible refine (H2.out _ HN.out).mono ?_)
      rintro e w3 ⟨x2, rfl, hE, hb⟩
      replace HV := Lib.hid (HV.out.on hb)
      replace HN := Lib.hid (HN.out.below hb)
      replace HX := Lib.hid (HX.out.below hb)
      replace HB := Lib.hid (belT HB.out hb)
      have Hx2 := Lib.hid hE
      clear hE
      clear hb
      go_wp2_with fail
      (with_reducible refine (H3.out _ _ HN.out Hx2.out).mono ?_)
      rintro e w4 ⟨rfl, hb⟩
      replace HV := Lib.hid (HV.out.on hb)
      replace HN := Lib.hid (HN.out.below hb)
      replace HX := Lib.hid (HX.out.below hb)
      replace Hx2 := Lib.hid (Hx2.out.on hb)
      replace HB := Lib.hid (belT HB.out hb)
      clear hb
      go_wp2_with fail
      (with_reducible refine (H4.out _ HV.out).mono ?_)
      rintro e w5 ⟨x4, rfl, hE, hb⟩
      replace HV := Lib.hid (HV.out.on hb)
      replace HN := Lib.hid (HN.out.below hb)
      replace HX := Lib.hid (HX.out.below hb)
      replace Hx2 := Lib.hid (Hx2.out.on hb)
      replace HB := Lib.hid (belT HB.out hb)
      have Hx4 := Lib.hid hE
      clear hE
      clear hb
      go_wp2_with fail
      (with_reducible refine (H5.out _ _ _ Hx2.out Hx4.out).mono ?_)
      rintro e w6 ⟨rfl, hb⟩
      replace HV := Lib.hid (HV.out.on hb)
      replace HN := Lib.hid (HN.out.below hb)
      replace HX := Lib.hid (HX.out.below hb)
      replace Hx2 := Lib.hid (Hx2.out.on hb)
      replace Hx4 := Lib.hid (Hx4.out.on hb)
      replace HB := Lib.hid (belT HB.out hb)
      clear hb
      obtain ⟨c0, c1, c2⟩ := HX.out.cells
      go_wp2_with fail
      (with_reducible refine (H6.out _).mono ?_)
      rintro e w7 ⟨rfl, hb⟩
      replace HV := Lib.hid (HV.out.on hb)
      replace HN := Lib.hid (HN.out.below hb)
      replace HX := Lib.hid (HX.out.below hb)
      replace HB := Lib.hid (belT HB.out hb)
      clear hb
      clear c0 c1 c2
      obtain ⟨c0, c1, c2⟩ := HX.out.cells
      go_wp2_with fail
      (with_reducible refine (H7.out _ HN.out).mono ?_)
      rintro e w8 ⟨rfl, hb⟩
      replace HV := Lib.hid (HV.out.on hb)
      replace HN := Lib.hid (HN.out.below hb)
      replace HX := Lib.hid (HX.out.below hb)
      replace HB := Lib.hid (belT HB.out hb)
      clear hb
      clear c0 c1 c2
      obtain ⟨c0, c1, c2⟩ := HX.out.cells
      go_wp2_with fail
      (with_reducible refine (H8.out _ HN.out).mono ?_)
      rintro e w9 ⟨y1, rfl, hE, hb⟩
      replace HV := Lib.hid (HV.out.on hb)
      replace HN := Lib.hid (HN.out.below hb)
      replace HX := Lib.hid (HX.out.below hb)
      replace HB := Lib.hid (belT HB.out hb)
      have Hy1 := Lib.hid hE
      clear hE
      clear hb
      clear c0 c1 c2
      obtain ⟨c0, c1, c2⟩ := HX.out.cells
      go_wp2_with fail
      (with_reducible refine (H9.out _ HN.out).mono ?_)
      rintro e w10 ⟨y2, rfl, hE, hb⟩
      replace HV := Lib.hid (HV.out.on hb)
      replace HN := Lib.hid (HN.out.below hb)
      replace HX := Lib.hid (HX.out.below hb)
      replace Hy1 := Lib.hid (Hy1.out.on hb)
      replace HB := Lib.hid (belT HB.out hb)
      have Hy2 := Lib.hid hE
      clear hE
      clear hb
      clear c0 c1 c2
      obtain ⟨c0, c1, c2⟩ := HX.out.cells
      go_wp2_with fail
      (with_reducible refine (H10.out _ HN.out).mono ?_)
      rintro e w11 ⟨y3, rfl, hE, hb⟩
      replace HV := Lib.hid (HV.out.on hb)
      replace HN := Lib.hid (HN.out.below hb)
      replace HX := Lib.hid (HX.out.below hb)
      replace Hy1 := Lib.hid (Hy1.out.on hb)
      replace Hy2 := Lib.hid (Hy2.out.on hb)
      replace HB := Lib.hid (belT HB.out hb)
      have Hy3 := Lib.hid hE
      clear hE
      clear hb
      clear c0 c1 c2
      obtain ⟨c0, c1, c2⟩ := HX.out.cells
      have hNx := edges_new1 w11 (1000 * b + 1000) 1000000
      have hLx := edges_new1 (w11.alloc (.cells #[.int .i64 (1000 * b + 1000), .int .i64 1000000] 49)) (1000 * b + c) (1000 * b + c + 1)
      rw [World.size_alloc] at hLx
      go_wp2_with fail
      have HBA := Lib.hid (bel1 w11 (.cells #[.int .i64 (1000 * b + 1000), .int .i64 1000000] 49))
      replace HV := Lib.hid (HV.out.on HBA.out)
      replace HN := Lib.hid (HN.out.below HBA.out)
      replace HX := Lib.hid (HX.out.below HBA.out)
      replace Hy1 := Lib.hid (Hy1.out.on HBA.out)
      replace Hy2 := Lib.hid (Hy2.out.on HBA.out)
      replace Hy3 := Lib.hid (Hy3.out.on HBA.out)
      replace HB := Lib.hid (belT HB.out HBA.out)
      clear HBA
      have HNx : Hid (EdgesOf (w11.alloc (.cells #[.int .i64 (1000 * b + 1000), .int .i64 1000000] 49)).heap.size (.slice (some ⟨w11.heap.size, 0, none⟩) 1 1) [(1000 * b + 1000, 1000000)] (w11.alloc (.cells #[.int .i64 (1000 * b + 1000), .int .i64 1000000] 49))) := Lib.hid (hNx.mono (by simp))
      have HBA := Lib.hid (bel1 (w11.alloc (.cells #[.int .i64 (1000 * b + 1000), .int .i64 1000000] 49)) (.cells #[.int .i64 (1000 * b + c), .int .i64 (1000 * b + c + 1)] 49))
      replace HV := Lib.hid (HV.out.on HBA.out)
      replace HN := Lib.hid (HN.out.below HBA.out)
      replace HX := Lib.hid (HX.out.below HBA.out)
      replace Hy1 := Lib.hid (Hy1.out.on HBA.out)
      replace Hy2 := Lib.hid (Hy2.out.on HBA.out)
      replace Hy3 := Lib.hid (Hy3.out.on HBA.out)
      replace HNx := Lib.hid (HNx.out.on HBA.out)
      replace HB := Lib.hid (belT HB.out HBA.out)
      clear HBA
      have HLx := Lib.hid (hLx.mono (show _ ≤ ((w11.alloc (.cells #[.int .i64 (1000 * b + 1000), .int .i64 1000000] 49)).alloc (.cells #[.int .i64 (1000 * b + c), .int .i64 (1000 * b + c + 1)] 49)).heap.size by simp))
      clear hNx hLx c0 c1 c2
      (with_reducible refine (H11.out _ _ _ Hy1.out HLx.out).mono ?_)
      rintro e w12 ⟨rfl, hb⟩
      replace HV := Lib.hid (HV.out.on hb)
      replace HN := Lib.hid (HN.out.below hb)
      replace HX := Lib.hid (HX.out.below hb)
      replace Hy1 := Lib.hid (Hy1.out.on hb)
      replace Hy2 := Lib.hid (Hy2.out.on hb)
      replace Hy3 := Lib.hid (Hy3.out.on hb)
      replace HNx := Lib.hid (HNx.out.on hb)
      replace HB := Lib.hid (belT HB.out hb)
      clear hb
      go_wp2_with fail
      (with_reducible refine (H12.out _).mono ?_)
      rintro e w13 ⟨z1, rfl, hE, hb⟩
      replace HV := Lib.hid (HV.out.on hb)
      replace HN := Lib.hid (HN.out.below hb)
      replace HX := Lib.hid (HX.out.below hb)
      replace Hy1 := Lib.hid (Hy1.out.on hb)
      replace Hy2 := Lib.hid (Hy2.out.on hb)
      replace Hy3 := Lib.hid (Hy3.out.on hb)
      replace HNx := Lib.hid (HNx.out.on hb)
      replace HB := Lib.hid (belT HB.out hb)
      have Hz1 := Lib.hid hE
      clear hE
      clear hb
      go_wp2_with fail
      (with_reducible refine (H13.out _ _ _ Hy2.out Hz1.out).mono ?_)
      rintro e w14 ⟨rfl, hb⟩
      replace HV := Lib.hid (HV.out.on hb)
      replace HN := Lib.hid (HN.out.below hb)
      replace HX := Lib.hid (HX.out.below hb)
      replace Hy1 := Lib.hid (Hy1.out.on hb)
      replace Hy2 := Lib.hid (Hy2.out.on hb)
      replace Hy3 := Lib.hid (Hy3.out.on hb)
      replace HNx := Lib.hid (HNx.out.on hb)
      replace Hz1 := Lib.hid (Hz1.out.on hb)
      replace HB := Lib.hid (belT HB.out hb)
      clear hb
      go_wp2_with fail
      (with_reducible refine (H14.out _ _ _ Hy2.out HNx.out).mono ?_)
      rintro e w15 ⟨z2, rfl, hE, hb⟩
      replace HV := Lib.hid (HV.out.on hb)
      replace HN := Lib.hid (HN.out.below hb)
      replace HX := Lib.hid (HX.out.below hb)
      replace Hy1 := Lib.hid (Hy1.out.on hb)
      replace Hy2 := Lib.hid (Hy2.out.on hb)
      replace Hy3 := Lib.hid (Hy3.out.on hb)
      replace HNx := Lib.hid (HNx.out.on hb)
      replace Hz1 := Lib.hid (Hz1.out.on hb)
      replace HB := Lib.hid (belT HB.out hb)
      have Hz2 := Lib.hid hE
      clear hE
      clear hb
      go_wp2_with fail
      (with_reducible refine (H15.out _ _ _ Hy3.out Hz2.out).mono ?_)
      rintro e w16 ⟨rfl, hb⟩
      replace HV := Lib.hid (HV.out.on hb)
      replace HN := Lib.hid (HN.out.below hb)
      replace HX := Lib.hid (HX.out.below hb)
      replace Hy1 := Lib.hid (Hy1.out.on hb)
      replace Hy2 := Lib.hid (Hy2.out.on hb)
      replace Hy3 := Lib.hid (Hy3.out.on hb)
      replace HNx := Lib.hid (HNx.out.on hb)
      replace Hz1 := Lib.hid (Hz1.out.on hb)
      replace Hz2 := Lib.hid (Hz2.out.on hb)
      replace HB := Lib.hid (belT HB.out hb)
      clear hb
      go_wp2_with fail
      go_ret
      exact ⟨rfl, HB.out⟩
    · have H6 := Lib.hid (fun W => Place_any a b c W)
      rw [show placeV a b c = (0, 2) by unfold placeV; rw [if_neg hv]] at H6
      have H7 := Lib.hid (fun W (h : EnvOk W) => Format_any a b c W h.2)
      rw [show formatV a b c = ([], 2) by unfold formatV; rw [if_neg hv]] at H7
      simp only at H6 H7
      clear hv
      go_enter Tryz.func7, Tryz.ntmps7
      go_wp2_with fail
      (with_reducible refine (HA.out).mono ?_)
      rintro e w1 ⟨rfl, hb⟩
      replace HV := Lib.hid (HV.out.on hb)
      replace HN := Lib.hid (HN.out.below hb)
      replace HX := Lib.hid (HX.out.below hb)
      replace HB := Lib.hid (belT HB.out hb)
      clear hb
      go_wp2_with fail
      (with_reducible refine (H1.out _ HN.out HV.out).mono ?_)
      rintro e w2 ⟨rfl, hb⟩
      replace HV := Lib.hid (HV.out.on hb)
      replace HN := Lib.hid (HN.out.below hb)
      replace HX := Lib.hid (HX.out.below hb)
      replace HB := Lib.hid (belT HB.out hb)
      clear hb
      go_wp2_with fail
      (with_reducible refine (H2.out _ HN.out).mono ?_)
      rintro e w3 ⟨x2, rfl, hE, hb⟩
      replace HV := Lib.hid (HV.out.on hb)
      replace HN := Lib.hid (HN.out.below hb)
      replace HX := Lib.hid (HX.out.below hb)
      replace HB := Lib.hid (belT HB.out hb)
      have Hx2 := Lib.hid hE
      clear hE
      clear hb
      go_wp2_with fail
      (with_reducible refine (H3.out _ _ HN.out Hx2.out).mono ?_)
      rintro e w4 ⟨rfl, hb⟩
      replace HV := Lib.hid (HV.out.on hb)
      replace HN := Lib.hid (HN.out.below hb)
      replace HX := Lib.hid (HX.out.below hb)
      replace Hx2 := Lib.hid (Hx2.out.on hb)
      replace HB := Lib.hid (belT HB.out hb)
      clear hb
      go_wp2_with fail
      (with_reducible refine (H4.out _ HV.out).mono ?_)
      rintro e w5 ⟨x4, rfl, hE, hb⟩
      replace HV := Lib.hid (HV.out.on hb)
      replace HN := Lib.hid (HN.out.below hb)
      replace HX := Lib.hid (HX.out.below hb)
      replace Hx2 := Lib.hid (Hx2.out.on hb)
      replace HB := Lib.hid (belT HB.out hb)
      have Hx4 := Lib.hid hE
      clear hE
      clear hb
      go_wp2_with fail
      (with_reducible refine (H5.out _ _ _ Hx2.out Hx4.out).mono ?_)
      rintro e w6 ⟨rfl, hb⟩
      replace HV := Lib.hid (HV.out.on hb)
      replace HN := Lib.hid (HN.out.below hb)
      replace HX := Lib.hid (HX.out.below hb)
      replace Hx2 := Lib.hid (Hx2.out.on hb)
      replace Hx4 := Lib.hid (Hx4.out.on hb)
      replace HB := Lib.hid (belT HB.out hb)
      clear hb
      obtain ⟨c0, c1, c2⟩ := HX.out.cells
      go_wp2_with fail
      (with_reducible refine (H6.out _).mono ?_)
      rintro e w7 ⟨rfl, hb⟩
      replace HV := Lib.hid (HV.out.on hb)
      replace HN := Lib.hid (HN.out.below hb)
      replace HX := Lib.hid (HX.out.below hb)
      replace HB := Lib.hid (belT HB.out hb)
      clear hb
      clear c0 c1 c2
      obtain ⟨c0, c1, c2⟩ := HX.out.cells
      go_wp2_with fail
      (with_reducible refine (H7.out _ HN.out).mono ?_)
      rintro e w8 ⟨rfl, hb⟩
      replace HV := Lib.hid (HV.out.on hb)
      replace HN := Lib.hid (HN.out.below hb)
      replace HX := Lib.hid (HX.out.below hb)
      replace HB := Lib.hid (belT HB.out hb)
      clear hb
      clear c0 c1 c2
      obtain ⟨c0, c1, c2⟩ := HX.out.cells
      go_wp2_with fail
      go_ret
      exact ⟨rfl, HB.out⟩
end Go.Proofs.YtdhihdiifgcfdaaGreatDoor
