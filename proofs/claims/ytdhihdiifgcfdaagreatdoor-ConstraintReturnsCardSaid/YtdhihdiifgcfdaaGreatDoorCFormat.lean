/- Contract of the constraint's Format. -/
import Derived.Test.YtdhihdiifgcfdaaGreatDoorCParse
import Derived.Test.YtdhihdiifgcfdaaGreatDoorCPlainFmt
import Derived.Test.YtdhihdiifgcfdaaGreatDoorVFormat
import Derived.Test.YtdhihdiifgcfdaaGreatDoorCPlace
import Derived.Deep.RegionHeld3
namespace Go.Proofs.YtdhihdiifgcfdaaGreatDoor
set_option linter.unusedVariables false
set_option linter.unusedSimpArgs false
open Go Go.RowKit

/-- one string is appended, within a region that draws. -/
theorem step_str {ops : Array Oper} {o : Oper} {a : Act} {K : Act → World → Prop} {Q : Exit → Act → World → Prop} {E : Prop} (w : World) (hgd : o.guard = none) (s x : Operand)
    (ho : o.op = .call { callee := .builtin .append, args := #[s, x], argTypes := #[61, 61] }) (B : Nat) (v : Value) (n : Nat) (xs : List Value) (hs : a.eval s = v) (hown : Hid (Mine 9 1 B v n xs w))
    (t : ByteArray) (hx : a.eval x = .slice (some ⟨w.heap.size, 0, none⟩) 1 1) (hb : n + 1 ≤ 4000000000)
    (h : ∀ g cap w', Hid (Mine 9 1 B (.slice (some ⟨g, 0, none⟩) (n + 1) cap) (n + 1) (xs ++ [.string t]) w') → Below B w w' → (∀ b, v.ownBlock ≠ some b → b < w.heap.size → w'.heap[b]? = w.heap[b]?) → K (a.put o.dst (.slice (some ⟨g, 0, none⟩) (n + 1) cap)) w') :
    if Region.wanted o (yielded ops a.tmps) = true then Oper.wp Tryz.prog o a (w.alloc (.cells #[.string t] 9)) K Q else E := by
  obtain ⟨i0, hi, hz0, hz1, hz2⟩ := info_parts info_strs
  obtain ⟨ho1, hB⟩ := hown.out
  have hw : Region.wanted o (yielded ops a.tmps) = true := by simp [Region.wanted, hgd]
  rw [if_pos hw]
  refine wp_append_own _ s x 61 ho B 9 i0 (.string ⟨#[]⟩) 1 16 Tryz.underlying61 hi hz0 hz1 hz2 rfl (by decide) v n xs hs (ho1.alloc _) ⟨w.heap.size, 0, none⟩ 1 1 [.string t] hx rfl (news_at w [.string t] _) (by simp [Value.oneCell']) (by unfold maxLen; omega) (by omega) (by simp; omega) ?_
  intro v' w' hown' hgrow _
  have hbel : Below B w w' := ((Below.refl B w).alloc hB _).grown hgrow (by simp; omega) (fun k hk => (ho1.lt k hk).1)
  have hO : Mine 9 1 B v' (n + 1) (xs ++ [.string t]) w' := ⟨hown', by have := hbel.size; omega⟩
  obtain ⟨g, cap, rfl⟩ := hO.shape (by omega)
  exact h g cap w' (Lib.hid hO) hbel (fun b hb hl => (hgrow.block b (by simp; omega) (fun e => hb e.symm)).trans (Below.heap_alloc w _ b hl))
set_option maxRecDepth 100000 in
theorem textCl_any (B : Nat) (m p : Int) (w : World) (ht : TabOk w) (hc : w.cell? ⟨B, 0, none⟩ = some (.int .i64 m)) :
    Calls Tryz.prog 55 #[.int .i64 p, .pointer (some ⟨B, 0, none⟩)] w fun e w' => e = .returned (.string (textB m p)) ∧ Below w.heap.size w w' := by
  have HA := Lib.hid (fun W => At_any m p W)
  obtain ⟨⟨⟨a, b, c⟩, er⟩, hx⟩ : ∃ x, atV m p = x := ⟨_, rfl⟩
  rw [hx] at HA
  simp only at HA
  have HF := Lib.hid (fun W (h : TabOk W) => Format_any a b c W h)
  have HTB : Hid (textB m p = ⟨(formatV a b c).1.toArray⟩) := Lib.hid (by unfold textB textV; rw [hx])
  rw [HTB.out]
  generalize formatV a b c = f at *
  have HT := Lib.hid ht
  clear hx ht HTB
  go_enter Tryz.func55, Tryz.ntmps55
  go_wp2_with fail
  (with_reducible refine (HA.out _).mono ?_)
  rintro e w1 ⟨rfl, hb1⟩
  have HB1 := Lib.hid (hb1.alloc hb1.size (.cells #[.int .i64 a, .int .i64 b, .int .i64 c] 23))
  have HT1 := Lib.hid (HT.out.below HB1.out)
  clear hb1
  go_wp2_with fail
  (with_reducible refine (HF.out _ HT1.out).mono ?_)
  rintro e w2 ⟨rfl, hb2⟩
  have HB2 := Lib.hid (HB1.out.trans (hb2.mono HB1.out.size))
  clear hb2
  go_wp2_with fail
  go_ret
  exact ⟨rfl, HB2.out⟩
/-- a text, an error, and no old cell has turned. -/
def StrErr (w : World) (r : List UInt8 × Int) (e : Ending) (w' : World) : Prop := e = .returned (.tuple #[.string ⟨r.1.toArray⟩, .int .i64 r.2]) ∧ Below w.heap.size w w'
set_option maxRecDepth 100000 in
set_option maxHeartbeats 16000000 in
theorem cFormat_any (v : Value) (s : List (Int × Int)) (m : Int) (w : World) (ht : TabOk w) (hs : s.length ≤ 1000000) (hE : EdgesOf w.heap.size v s w) :
    Calls Tryz.prog 18 #[v, .int .i64 m] w (StrErr w (formatC m s)) := by
  by_cases m0 : m < 0
  · have HE := Lib.hid (show formatC m s = ([], 2) by unfold formatC; rw [if_pos (by omega)])
    rw [HE.out]
    obtain ⟨ao, ec, rfl, _⟩ := hE
    clear ht
    go_enter Tryz.func18, Tryz.ntmps18
    go_wp2_with fail
    go_ret2
    exact ⟨rfl, (by repeat (first | exact Below.refl _ _ | refine Below.drew ?_ | refine Below.alloc ?_ (by simp <;> omega) _ | refine Below.setCell ?_ (by simp <;> omega) _))⟩
  · by_cases m1 : 999 < m
    · have HE := Lib.hid (show formatC m s = ([], 2) by unfold formatC; rw [if_pos (by omega)])
      rw [HE.out]
      obtain ⟨ao, ec, rfl, _⟩ := hE
      clear ht
      go_enter Tryz.func18, Tryz.ntmps18
      go_wp2_with fail
      go_ret2
      exact ⟨rfl, (by repeat (first | exact Below.refl _ _ | refine Below.drew ?_ | refine Below.alloc ?_ (by simp <;> omega) _ | refine Below.setCell ?_ (by simp <;> omega) _))⟩
    · have hb0 : Below w.heap.size w (w.alloc (.cells #[.int .i64 m] 3)) := (Below.refl _ _).alloc (Nat.le_refl _) _
      have HCA := Lib.hid (Canonical_any v s (w.alloc (.cells #[.int .i64 m] 3)) (by omega) ((hE.below hb0 (Nat.le_refl _)).mono (by simp)))
      have hE0 : formatC m s = if canon s = [] then ([110, 111, 110, 101], 0) else (Lib.join ((canon s).map (spanT m)) [32, 124, 32], 0) := by unfold formatC; rw [if_neg (by omega)]
      have hcl := canon_len s
      have hcm : ∀ x ∈ canon s, 0 ≤ x.1 ∧ x.1 < x.2 ∧ x.2 ≤ 1000000 := (canon_can s).2
      obtain ⟨r, hr⟩ : ∃ r, formatC m s = r := ⟨_, rfl⟩
      rw [hr] at hE0 ⊢
      have HE := Lib.hid hE0
      have HCM := Lib.hid hcm
      have HT := Lib.hid ht
      obtain ⟨ao, ec, rfl, _⟩ := hE
      generalize canon s = c at *
      have HB0 := Lib.hid hb0
      clear hr hE0 hcm ht hb0
      go_enter Tryz.func18, Tryz.ntmps18
      go_wp2_with fail
      (with_reducible refine HCA.out.mono ?_)
      rintro e w1 ⟨v1, rfl, hE1, hb1⟩
      have HB1 : Hid (Below w.heap.size w w1) := Lib.hid (HB0.out.trans (hb1.mono (by simp)))
      have HBX : Hid (w1.cell? ⟨w.heap.size, 0, none⟩ = some (.int .i64 m)) := Lib.hid ((hb1.cell (p := ⟨w.heap.size, 0, none⟩) (by simp)).trans (by simp [go_sem]))
      have hwl : w.heap.size < w1.heap.size := by have := hb1.size; simp at this; omega
      obtain ⟨ao1, ec1, rfl, hE1⟩ := hE1
      have HE1 := Lib.hid hE1
      clear hE1 hb1
      go_wp2_with fail
      go_loopw [7, 20] (fun o p wr => ∃ k : Nat, k ≤ c.length ∧ p = .int .i64 k ∧ Hid (Mine 9 1 w1.heap.size o k ((c.take k).map fun x => .string (spanB m x)) wr) ∧ Hid (Below w1.heap.size w1 wr)) (fun _ p _ => c.length - (intOf p).toNat)
      case atStart => exact ⟨0, Nat.zero_le _, rfl, Mine.nil _ _ _ _ (Nat.le_refl _), Lib.hid (Below.refl _ _)⟩
      case round =>
        obtain ⟨k, hk, rfl, HO, HB⟩ := hrel
        have hszr := HB.out.size
        by_cases hlt : k < c.length
        · obtain ⟨b, off, rfl, hbl, hc1, hc2⟩ := HE1.out k c[k] (by simp [hlt])
          have hc1 := (HB.out.cell (p := ⟨b, off + k * 2, none⟩) hbl).trans hc1
          have hc2 := (HB.out.cell (p := ⟨b, off + k * 2 + 1, none⟩) hbl).trans hc2
          have hbx := (HB.out.cell (p := ⟨w.heap.size, 0, none⟩) hwl).trans HBX.out
          have HTK : Hid ((c.take (k + 1)).map (fun x => Value.string (spanB m x)) = (c.take k).map (fun x => Value.string (spanB m x)) ++ [.string (spanB m c[k])]) := Lib.hid (by rw [List.take_succ_eq_append_getElem hlt, List.map_append]; rfl)
          have hcb := HCM.out c[k] (List.getElem_mem hlt)
          generalize c[k] = x at *
          have hsc := spanB_cases m x
          obtain ⟨x1, x2⟩ := x
          simp only at hc1 hc2 hcb hsc
          have HTW := Lib.hid ((HT.out.below HB1.out).below HB.out)
          have HTX : Hid (∀ W, Below wr.heap.size wr W → ∀ p, Calls Tryz.prog 55 #[.int .i64 p, .pointer (some ⟨w.heap.size, 0, none⟩)] W fun e w' => e = .returned (.string (textB m p)) ∧ Below W.heap.size W w') := Lib.hid (fun W hW p => textCl_any w.heap.size m p W (HTW.out.below hW) ((hW.cell (p := ⟨w.heap.size, 0, none⟩) (by show w.heap.size < _; omega)).trans hbx))
          have h24 := spanB_size m (x1, x2)
          have ht1 := textB_size m x1
          have ht2 := textB_size m x2
          have HSX : Hid (∀ (o : Value) (W : World) (y : ByteArray), y = spanB m (x1, x2) → Hid (Mine 9 1 w1.heap.size o (k + 1) ((c.take k).map (fun x => Value.string (spanB m x)) ++ [.string y]) W) → Hid (Mine 9 1 w1.heap.size o (k + 1) ((c.take (k + 1)).map (fun x => Value.string (spanB m x))) W)) := Lib.hid (fun o W y hy h => by rw [HTK.out, ← hy]; exact h)
          clear HTK
          rcases hsc with ⟨h1, hsb⟩ | ⟨h1, h2, hsb⟩ | ⟨h1, h2, h3, hsb⟩ | ⟨h1, h2, h3, h4, hsb⟩ | ⟨h1, h2, h3, h4, hsb⟩
          · obtain ⟨rfl, rfl⟩ := Prod.mk.inj h1
            have HSB := Lib.hid hsb
            clear h1 hsb
            have HOA := Mine.below HO ((Below.refl wr.heap.size wr).alloc (Nat.le_refl _) (.cells #[intC 0, intC 1000000] 49))
            have HBA : Hid (Below w1.heap.size w1 (wr.alloc (.cells #[intC 0, intC 1000000] 49))) := Lib.hid (HB.out.alloc hszr _)
            go_wp2_with (at_builtin; refine app_strs _ rfl _ _ (by rfl) w1.heap.size _ _ _ (by rfl) HOA 1 [.string ⟨#[42]⟩] _ (by rfl) (by rw [World.size_alloc]; rfl) (by rfl) (by simp [Value.oneCell']) (by decide) (by omega) ?_; intro g cap w2 HO3 hb2; have HB2 := Lib.hid (HBA.out.trans hb2); clear hb2)
            go_roundw
            case rel => exact ⟨k + 1, by omega, by go_num, HSX.out _ _ _ HSB.out.symm HO3, HB2⟩
            case measure => simp [intOf]; omega
          · have HSB := Lib.hid hsb
            have hne : (x1 == 0) = false ∨ ((x1 == 0) = true ∧ (x2 == 1000000) = false) := by
              by_cases hz : x1 = 0
              · exact .inr ⟨by simpa using hz, by simp only [beq_eq_false_iff_ne]; exact fun e => h1 (by rw [hz, e])⟩
              · exact .inl (by simpa using hz)
            have hwr : IntKind.i64.wrap (x1 + 1) = x1 + 1 := IntWalk.i64_in _ (by omega)
            subst h2
            clear h1 hsb
            have HBA : Hid (Below w1.heap.size w1 (wr.alloc (.cells #[intC x1, intC (x1 + 1)] 49))) := Lib.hid (HB.out.alloc hszr _)
            have HBW : Hid (Below wr.heap.size wr (wr.alloc (.cells #[intC x1, intC (x1 + 1)] 49))) := Lib.hid ((Below.refl _ _).alloc (Nat.le_refl _) _)
            have HT1 := Lib.hid (HTX.out _ HBW.out x1)
            rcases hne with hne | ⟨hne, hne2⟩
            all_goals
              go_wp2_with fail
              (with_reducible refine HT1.out.mono ?_)
              rintro e w2 ⟨rfl, hb2⟩
              have HO2 := Mine.below HO (HBW.out.trans (hb2.mono HBW.out.size))
              have HB2 := Lib.hid (HBA.out.trans (hb2.mono HBA.out.size))
              clear hb2
              go_wp2_with (at_builtin; refine app_strs _ rfl _ _ (by rfl) w1.heap.size _ _ _ (by rfl) HO2 1 [.string (textB m x1)] _ (by rfl) (by rfl) (by rfl) (by simp [Value.oneCell']) (by decide) (by omega) ?_; intro g cap w3 HO3 hb3; have HB3 := Lib.hid (HB2.out.trans hb3); clear hb3)
              go_roundw
              case rel => exact ⟨k + 1, by omega, by go_num, HSX.out _ _ _ HSB.out.symm HO3, HB3⟩
              case measure => simp [intOf]; omega
          · have HSB := Lib.hid hsb
            subst h3
            have hne : (x1 == 0) = false := by
              rw [beq_eq_false_iff_ne]
              exact fun e => h1 (by rw [e])
            have hwr : IntKind.i64.wrap (x1 + 1) = x1 + 1 := IntWalk.i64_in _ (by omega)
            have e1 : ((1000000 : Int) == x1 + 1) = false := by simpa using h2
            have n1 : ¬ 9223372036854775807 < (textB m x1).size + 2 := by omega
            have n2 : ¬ 9223372036854775805 < (textB m x1).size := by omega
            clear h1 h2 hsb
            have HBA : Hid (Below w1.heap.size w1 (wr.alloc (.cells #[intC x1, intC 1000000] 49))) := Lib.hid (HB.out.alloc hszr _)
            have HBW : Hid (Below wr.heap.size wr (wr.alloc (.cells #[intC x1, intC 1000000] 49))) := Lib.hid ((Below.refl _ _).alloc (Nat.le_refl _) _)
            have HT1 := Lib.hid (HTX.out _ HBW.out x1)
            all_goals
              go_wp2_with fail
              (with_reducible refine HT1.out.mono ?_)
              rintro e w2 ⟨rfl, hb2⟩
              have HO2 := Mine.below HO (HBW.out.trans (hb2.mono HBW.out.size))
              have HB2 := Lib.hid (HBA.out.trans (hb2.mono HBA.out.size))
              clear hb2
              go_wp2_with (at_builtin; refine app_strs _ rfl _ _ (by rfl) w1.heap.size _ _ _ (by rfl) HO2 1 [.string (textB m x1 ++ ⟨#[46, 46]⟩)] _ (by rfl) (by rfl) (by rfl) (by simp [Value.oneCell']) (by decide) (by omega) ?_; intro g cap w3 HO3 hb3; have HB3 := Lib.hid (HB2.out.trans hb3); clear hb3)
              go_roundw
              case rel => exact ⟨k + 1, by omega, by go_num, HSX.out _ _ _ HSB.out.symm HO3, HB3⟩
              case measure => simp [intOf]; omega
          · have HSB := Lib.hid hsb
            subst h4
            have hne : (x2 == 1000000) = false := by simpa using h3
            have e1 : (x2 == 1) = false := by simpa using h2
            have n1 : ¬ 9223372036854775807 < 2 + (textB m x2).size := by omega
            have n2 : ¬ 9223372036854775805 < (textB m x2).size := by omega
            have n3 : ¬ 9223372036854775807 < (⟨#[46, 46]⟩ : ByteArray).size + (textB m x2).size := by have : (⟨#[46, 46]⟩ : ByteArray).size = 2 := rfl; omega
            clear h1 h2 h3 hsb
            have HBA : Hid (Below w1.heap.size w1 (wr.alloc (.cells #[intC 0, intC x2] 49))) := Lib.hid (HB.out.alloc hszr _)
            have HBW : Hid (Below wr.heap.size wr (wr.alloc (.cells #[intC 0, intC x2] 49))) := Lib.hid ((Below.refl _ _).alloc (Nat.le_refl _) _)
            have HT1 := Lib.hid (HTX.out _ HBW.out x2)
            all_goals
              go_wp2_with fail
              (with_reducible refine HT1.out.mono ?_)
              rintro e w2 ⟨rfl, hb2⟩
              have HO2 := Mine.below HO (HBW.out.trans (hb2.mono HBW.out.size))
              have HB2 := Lib.hid (HBA.out.trans (hb2.mono HBA.out.size))
              clear hb2
              go_wp2_with (at_builtin; refine app_strs _ rfl _ _ (by rfl) w1.heap.size _ _ _ (by rfl) HO2 1 [.string (⟨#[46, 46]⟩ ++ textB m x2)] _ (by rfl) (by rfl) (by rfl) (by simp [Value.oneCell']) (by decide) (by omega) ?_; intro g cap w3 HO3 hb3; have HB3 := Lib.hid (HB2.out.trans hb3); clear hb3)
              go_roundw
              case rel => exact ⟨k + 1, by omega, by go_num, HSX.out _ _ _ HSB.out.symm HO3, HB3⟩
              case measure => simp [intOf]; omega
          · have HSB := Lib.hid hsb
            have hne : (x1 == 0) = false := by simpa using h4
            have hwr : IntKind.i64.wrap (x1 + 1) = x1 + 1 := IntWalk.i64_in _ (by omega)
            have e1 : (x2 == x1 + 1) = false := by simpa using h2
            have e2 : (x2 == 1000000) = false := by simpa using h3
            have d2 : (⟨#[46, 46]⟩ : ByteArray).size = 2 := rfl
            have s1 : (textB m x1 ++ (⟨#[46, 46]⟩ : ByteArray)).size = (textB m x1).size + 2 := by rw [size_app2, d2]
            have n1 : ¬ 9223372036854775807 < (textB m x1).size + 2 := by omega
            have n2 : ¬ 9223372036854775805 < (textB m x1).size := by omega
            have n3 : ¬ 9223372036854775807 < (textB m x1).size + 2 + (textB m x2).size := by omega
            clear h1 h2 h3 h4 hsb d2
            have HBA : Hid (Below w1.heap.size w1 (wr.alloc (.cells #[intC x1, intC x2] 49))) := Lib.hid (HB.out.alloc hszr _)
            have HBW : Hid (Below wr.heap.size wr (wr.alloc (.cells #[intC x1, intC x2] 49))) := Lib.hid ((Below.refl _ _).alloc (Nat.le_refl _) _)
            have HXX : Hid ((wr.alloc (.cells #[intC x1, intC x2] 49)).cell? ⟨wr.heap.size, 0, none⟩ = some (intC x1) ∧ (wr.alloc (.cells #[intC x1, intC x2] 49)).cell? ⟨wr.heap.size, 1, none⟩ = some (intC x2) ∧ wr.heap.size < (wr.alloc (.cells #[intC x1, intC x2] 49)).heap.size) := Lib.hid ⟨by simp [go_sem], by simp [go_sem], by simp⟩
            have HOW := Mine.below HO HBW.out
            have HNE : Hid (u7.ownBlock ≠ some wr.heap.size) := Lib.hid (fun e => by have := (HO.out.1.lt _ e).2; omega)
            go_wp2_with fail
            obtain ⟨W, hW⟩ : ∃ W, wr.alloc (.cells #[intC x1, intC x2] 49) = W := ⟨_, rfl⟩
            rw [hW] at HBA HBW HXX HOW ⊢
            clear hW
            obtain ⟨hx0, hx1, hz0⟩ := HXX.out
            have HBC : Hid (Below W.heap.size W W) := Lib.hid (Below.refl _ _)
            go_region_held3 (fun w' => w'.cell? ⟨wr.heap.size, 0, none⟩ = some (intC x1) ∧ w'.cell? ⟨wr.heap.size, 1, none⟩ = some (intC x2))
              ((first | (exact ⟨HX3.out.1, HX3.out.2⟩) | (exact ⟨(HBC.out.cell (p := ⟨wr.heap.size, 0, none⟩) hz0).trans hx0, (HBC.out.cell (p := ⟨wr.heap.size, 1, none⟩) hz0).trans hx1⟩) | (exact ⟨(HBC.out.drew.cell (p := ⟨wr.heap.size, 0, none⟩) hz0).trans hx0, (HBC.out.drew.cell (p := ⟨wr.heap.size, 1, none⟩) hz0).trans hx1⟩) | (exact ⟨((HBC.out.alloc HBC.out.size _).cell (p := ⟨wr.heap.size, 0, none⟩) hz0).trans hx0, ((HBC.out.alloc HBC.out.size _).cell (p := ⟨wr.heap.size, 1, none⟩) hz0).trans hx1⟩)))
              (first | (go_at_call 55; (first | refine (HTX.out _ (HBW.out.trans (HBC.out.mono HBW.out.size)) _).mono ?_ | refine (HTX.out _ (HBW.out.trans (HBC.out.drew.mono HBW.out.size)) _).mono ?_); rintro e wq ⟨rfl, hbc⟩; (first | (replace HBC := Lib.hid (HBC.out.trans (hbc.mono HBC.out.size))) | (replace HBC := Lib.hid (HBC.out.drew.trans (hbc.mono HBC.out.size)))); clear hbc) | (refine step_str _ ?hg (.tmp 24) (.tmp 35) ?ho w1.heap.size _ _ _ ?hs (Mine.below HOW HBC.out) (textB m x1 ++ ⟨#[46, 46]⟩ ++ textB m x2) ?hx (by omega) ?hh; (case hg => rfl); (case ho => rfl); (case hs => rfl); (case hx => rfl); intro g cap w3 HO3 hb3 hk3; have hq3 := hk3 wr.heap.size HNE.out (Nat.lt_of_lt_of_le hz0 HBC.out.size); have HX3 := Lib.hid (And.intro ((World.cell?_of_block (a := ⟨wr.heap.size, 0, none⟩) hq3).trans ((HBC.out.cell (p := ⟨wr.heap.size, 0, none⟩) hz0).trans hx0)) ((World.cell?_of_block (a := ⟨wr.heap.size, 1, none⟩) hq3).trans ((HBC.out.cell (p := ⟨wr.heap.size, 1, none⟩) hz0).trans hx1))); have HB3 := Lib.hid ((HBA.out.trans (HBC.out.mono HBA.out.size)).trans hb3); clear hb3 hk3 hq3))
            all_goals
              go_wp2_with fail
              go_roundw
              case rel => exact ⟨k + 1, by omega, by go_num, HSX.out _ _ _ HSB.out.symm HO3, HB3⟩
              case measure => simp [intOf]; omega
        · have hkk : k = c.length := by omega
          subst hkk
          rw [List.take_length] at HO
          have hwz : w.heap.size ≤ w1.heap.size := Nat.le_of_lt hwl
          have HBF : Hid (Below w.heap.size w wr) := Lib.hid (HB1.out.trans (HB.out.mono hwz))
          by_cases hc0 : c = []
          · have HR : Hid (r = ([110, 111, 110, 101], 0)) := Lib.hid (by rw [HE.out, if_pos hc0])
            subst hc0
            obtain ⟨fa, fc, rfl⟩ := own_form HO.out.1
            simp only [List.length_nil] at *
            go_wp2_with fail
            go_ret2
            exact ⟨by rw [HR.out]; rfl, HBF.out⟩
          · have HR : Hid (r = (Lib.join (c.map (spanT m)) [32, 124, 32], 0)) := Lib.hid (by rw [HE.out, if_neg hc0])
            have hn : 0 < c.length := List.length_pos_iff.2 hc0
            have hn1 : ((c.length : Int) == 0) = false := by simpa using hc0
            obtain ⟨g, cap, rfl⟩ := HO.out.shape hn
            have hg := HO.out.ge
            have HJ : Hid ((c.map (spanB m)).map (·.data.toList) = c.map (spanT m)) := Lib.hid (by rw [List.map_map]; rfl)
            have HLL : Hid ((Lib.join (c.map (spanT m)) [32, 124, 32]).length ≤ (c.map (spanT m)).length * (24 + 3)) := Lib.hid (jtext_len [32, 124, 32] 24 _ fun x hx => by
              obtain ⟨y, hy, rfl⟩ := List.mem_map.1 hx
              have := spanB_size m y
              unfold spanT
              rw [← Lib.size_eq]
              exact this)
            have HJN := Lib.hid (Tryz.strings_Join g 0 cap (c.map (spanB m)) ⟨#[32, 124, 32]⟩ wr (fun j x hx => by
              have hj : j < c.length := by have := (List.getElem?_eq_some_iff.1 hx).1; simpa using this
              rw [Nat.zero_add, HO.out.cell j (by omega)]
              have := congrArg (Option.map Value.string) hx
              rw [← List.getElem?_map, List.map_map] at this
              exact this) hg.2 (by rw [List.length_map]; omega) (by
                rw [List.length_map]
                obtain ⟨_, h2⟩ := HO.out.1
                rcases h2 with ⟨h2, _⟩ | ⟨g', cap', cur, hv2, _, _, h3, _⟩
                · cases h2
                · cases hv2; exact h3) (by
                  rw [HJ.out]
                  have := HLL.out
                  rw [List.length_map] at this
                  show (Lib.join (c.map (spanT m)) [32, 124, 32]).length ≤ _
                  omega))
            rw [HJ.out, List.length_map] at HJN
            clear hc0
            go_wp2_with fail
            (with_reducible refine HJN.out.mono ?_)
            rintro e w2 ⟨rfl, hb2⟩
            have HB2 : Hid (Below w.heap.size w w2) := Lib.hid (HBF.out.trans (hb2.mono HBF.out.size))
            clear hb2
            go_wp2_with fail
            go_ret2
            exact ⟨by rw [HR.out]; rfl, HB2.out⟩
end Go.Proofs.YtdhihdiifgcfdaaGreatDoor
