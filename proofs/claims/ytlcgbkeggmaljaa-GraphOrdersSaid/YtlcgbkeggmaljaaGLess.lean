/- The library's Equal where two slices read the same; the reference's Less. -/
import Derived.Test.YtlcgbkeggmaljaaPJ
import Derived.Test.YtlcgbkeggmaljaaPK
namespace Go.Proofs.Ytlcgbkeggmaljaa
set_option linter.unusedVariables false
set_option linter.unusedSimpArgs false
open Go Go.RowKit

/-- slices.Equal at strings that are the same. -/
theorem Equal_strs_same (v u : Value) (B : Nat) (l : List ByteArray) (w : World) (hl : l.length ≤ 1000000000) (h1 : RowOf Value.string B v l w) (h2 : RowOf Value.string B u l w) :
    Calls Try.prog 23 #[v, u] w fun e w' => e = .returned (.bool true) ∧ ∃ q, w' = w.drewN q := by
  obtain ⟨ua, uc, rfl, _⟩ := rowOf_open h2
  rcases h1 with ⟨rfl, a, c, rfl⟩ | ⟨b, off, cap, rfl, _, hc⟩
  · refine (Try.slices_Equal_string_empty a ua c 0 uc w (by decide)).mono ?_
    rintro e w' ⟨rfl, rfl⟩
    exact ⟨rfl, 0, rfl⟩
  · rcases h2 with ⟨rfl, a, c, e⟩ | ⟨b2, off2, cap2, e, _, hc2⟩
    · refine (Try.slices_Equal_string_empty _ ua cap 0 uc w (by decide)).mono ?_
      rintro e w' ⟨rfl, rfl⟩
      exact ⟨rfl, 0, rfl⟩
    · cases e
      have hcc : ∀ (b off : Nat), (∀ (i : Nat) (x : ByteArray), l[i]? = some x → w.cell? ⟨b, off + i, none⟩ = some (Value.string x)) → ∀ j, j < l.length → w.cell? ⟨b, off + j, none⟩ = some (.string (l.getD j ByteArray.empty)) := fun b off h j hj => by
        rw [h j l[j] (by simp [hj]), List.getD_eq_getElem?_getD, List.getElem?_eq_getElem hj]; rfl
      refine (Try.slices_Equal_string b off l.length cap b2 off2 l.length uc l l w (Nat.le_refl _) (Nat.le_refl _) (by omega) (by omega) (hcc b off hc) (hcc b2 off2 hc2)).mono ?_
      rintro e w' ⟨rfl, q, rfl⟩
      exact ⟨by simp, q, rfl⟩
set_option maxRecDepth 100000 in
/-- slices.Equal at edges that are the same. -/
theorem Equal_edges_same (v u : Value) (B : Nat) (es : List (Int × Int)) (w : World) (hl : es.length ≤ 1000000000) (h1 : EdgesOf B v es w) (h2 : EdgesOf B u es w) :
    Calls Try.prog 24 #[v, u] w fun e w' => e = .returned (.bool true) ∧ ∃ q, w' = w.drewN q := by
  have g1 := h1
  have g2 := h2
  obtain ⟨a1, c1, rfl, k1⟩ := h1
  obtain ⟨a2, c2, rfl, k2⟩ := h2
  by_cases hp : 0 < es.length
  · obtain ⟨b1, o1, rfl, _⟩ := k1 0 es[0] (by simp [hp])
    obtain ⟨b2, o2, rfl, _⟩ := k2 0 es[0] (by simp [hp])
    refine (AnyQ.slices_Equal edgeLays8 2 Try.isAgg39 Try.sizeOf39 edgeC (fun _ => rfl) _ edge_neq b1 o1 es.length c1 b2 o2 es.length c2 es es w (Nat.le_refl _) (Nat.le_refl _) (by omega) (by omega) (edges_cells g1) (edges_cells g2)).mono ?_
    rintro e w' ⟨rfl, q, rfl⟩
    refine ⟨?_, q, rfl⟩
    congr 2
    exact Lib.allEq_all _ _ _ rfl (fun j _ => by simp)
  · have : es = [] := List.length_eq_zero_iff.1 (by omega)
    subst this
    go_enter Try.func24, Try.ntmps24
    go_wp2_with fail
    go_loopw [13] (fun q wr => q = .int .i64 0 ∧ wr = w) (fun _ _ => 0)
    case atStart => exact ⟨rfl, rfl⟩
    case round =>
      obtain ⟨rfl, rfl⟩ := hrel
      go_wp2_with fail
      go_ret
      exact ⟨rfl, 0, rfl⟩
/-- a list comes before another. -/
def lexL : List Nat → List Nat → Bool
  | x :: a, y :: b => if x = y then lexL a b else decide (x < y)
  | _, _ => false
def lessL (a b : List Nat) : Bool := if a.length = b.length then lexL a b else decide (a.length < b.length)
theorem lexL_self : ∀ a, lexL a a = false
  | [] => rfl
  | x :: a => by unfold lexL; rw [if_pos rfl]; exact lexL_self a
theorem lexL_at : ∀ (a b : List Nat) (i x y : Nat), a.take i = b.take i → a[i]? = some x → b[i]? = some y → x ≠ y → lexL a b = decide (x < y)
  | [], _, i, x, y, _, h, _, _ => by simp at h
  | _ :: _, [], i, x, y, _, _, h, _ => by simp at h
  | u :: a, v :: b, 0, x, y, _, h1, h2, hne => by
    simp at h1 h2
    subst h1; subst h2
    unfold lexL
    rw [if_neg hne]
  | u :: a, v :: b, i + 1, x, y, ht, h1, h2, hne => by
    rw [List.take_succ_cons, List.take_succ_cons] at ht
    have h3 := (List.cons.inj ht).1
    subst h3
    unfold lexL
    rw [if_pos rfl]
    exact lexL_at a b i x y (List.cons.inj ht).2 (by simpa using h1) (by simpa using h2) hne
set_option maxRecDepth 100000 in
set_option maxHeartbeats 4000000 in
theorem Less_any (v u : Value) (B : Nat) (a b : List Nat) (w : World) (ha : a.length ≤ 1000000) (hb : b.length ≤ 1000000) (h1 : RowOf natC B v a w) (h2 : RowOf natC B u b w) :
    Calls Try.prog 53 #[v, u] w fun e w' => e = .returned (.bool (lessL a b)) ∧ ∃ q, w' = w.drewN q := by
  obtain ⟨va, vc, rfl, g1⟩ := rowOf_open h1
  obtain ⟨ua, uc, rfl, g2⟩ := rowOf_open h2
  by_cases hlen : a.length = b.length
  case neg =>
    have hl1 : ¬ (a.length : Int) = (b.length : Int) := by omega
    have hl2 : ((a.length : Int) == (b.length : Int)) = false := by simpa using hl1
    have hl3 : decide ((a.length : Int) = (b.length : Int)) = false := decide_eq_false hl1
    have he : lessL a b = decide (a.length < b.length) := by unfold lessL; rw [if_neg hlen]
    rw [he]
    have HD : Hid (decide ((a.length : Int) < (b.length : Int)) = decide (a.length < b.length)) := Lib.hid (by by_cases h : a.length < b.length <;> simp [h])
    clear he g1 g2 h1 h2
    go_enter Try.func53, Try.ntmps53
    go_wp2_with fail
    go_ret
    exact ⟨by first | rfl | rw [HD.out] | simp, 0, rfl⟩
  case pos =>
    obtain ⟨n, hn⟩ : ∃ n, n = a.length := ⟨_, rfl⟩
    have hnb : b.length = n := by omega
    rw [← hn, hnb]
    have HNA := Lib.hid hn
    have HNB := Lib.hid hnb
    have G1 := Lib.hid g1
    have G2 := Lib.hid g2
    have hE : lessL a b = lexL a b := by unfold lessL; rw [if_pos hlen]
    rw [hE]
    have hnl : n ≤ 1000000 := by omega
    clear hn hnb g1 g2 h1 h2 hlen hE ha hb
    go_enter Try.func53, Try.ntmps53
    go_wp2_with fail
    go_loopw [5] (fun q wr => ∃ i : Nat, i ≤ n ∧ q = .int .i64 i ∧ Hid (a.take i = b.take i) ∧ Hid (∃ k, wr = w.drewN k)) (fun q _ => n - (intOf q).toNat)
    case atStart => exact ⟨0, by omega, rfl, Lib.hid (by simp), Lib.hid ⟨0, rfl⟩⟩
    case round =>
      obtain ⟨i, hi, rfl, HT, HW⟩ := hrel
      by_cases hlt : i < n
      · have hi0 : (0 : Int) ≤ (i : Int) := by omega
        have hi1 : (i : Int) < (n : Int) := by omega
        have hia : i < a.length := by rw [← HNA.out]; exact hlt
        have hib : i < b.length := by rw [HNB.out]; exact hlt
        obtain ⟨x, hx⟩ : ∃ x, a[i]? = some x := ⟨a[i], by simp [hia]⟩
        obtain ⟨y, hy⟩ : ∃ y, b[i]? = some y := ⟨b[i], by simp [hib]⟩
        obtain ⟨b1, o1, rfl, _, c1⟩ := G1.out i x hx
        obtain ⟨b2, o2, rfl, _, c2⟩ := G2.out i y hy
        obtain ⟨k, hk⟩ := HW.out
        have hc1 : wr.cell? ⟨b1, o1 + i, none⟩ = some (.int .i64 (x : Int)) := by rw [hk, World.cell?_drewN]; exact c1
        have hc2 : wr.cell? ⟨b2, o2 + i, none⟩ = some (.int .i64 (y : Int)) := by rw [hk, World.cell?_drewN]; exact c2
        have HX := Lib.hid hx
        have HY := Lib.hid hy
        have HK := Lib.hid hk
        clear c1 c2 hx hy hk
        by_cases hxy : x = y
        · subst hxy
          have HT2 : Hid (a.take (i + 1) = b.take (i + 1)) := Lib.hid (by
            rw [List.take_succ_eq_append_getElem hia, List.take_succ_eq_append_getElem hib, HT.out, (List.getElem?_eq_some_iff.1 HX.out).2, (List.getElem?_eq_some_iff.1 HY.out).2])
          go_wp2_with fail
          go_quiet (fail)
          go_wp2_with fail
          go_roundw
          case rel => exact ⟨i + 1, by omega, by go_num, HT2, Lib.hid ⟨_, by rw [HK.out, World.drewN_drewN]⟩⟩
          case measure => simp [intOf]; omega
        · have e1 : ¬ (x : Int) = (y : Int) := by omega
          have e2 : ((x : Int) == (y : Int)) = false := by simpa using e1
          have e3 : decide ((x : Int) = (y : Int)) = false := decide_eq_false e1
          have e4 : (x == y) = false := by simpa using hxy
          have HD : Hid (decide ((x : Int) < (y : Int)) = decide (x < y)) := Lib.hid (by by_cases h : x < y <;> simp [h])
          have HL := Lib.hid (lexL_at a b i x y HT.out HX.out HY.out hxy)
          go_wp2_with fail
          go_quiet (fail)
          go_wp2_with fail
          obtain ⟨wq, hwq⟩ : ∃ W, W = wr.drewN nq := ⟨_, rfl⟩
          rw [← hwq]
          have hc3 : wq.cell? ⟨b1, o1 + i, none⟩ = some (.int .i64 (x : Int)) := by rw [hwq, World.cell?_drewN]; exact hc1
          have hc4 : wq.cell? ⟨b2, o2 + i, none⟩ = some (.int .i64 (y : Int)) := by rw [hwq, World.cell?_drewN]; exact hc2
          have HWQ := Lib.hid hwq
          clear hwq hc1 hc2
          go_quiet (fail)
          go_wp2_with fail
          go_ret
          exact ⟨by rw [HL.out]; first | rfl | rw [HD.out] | simp, _, by rw [HWQ.out, HK.out, World.drewN_drewN, World.drewN_drewN]⟩
      · have hii : i = n := by omega
        have HL : Hid (lexL a b = false) := Lib.hid (by
          have h := HT.out
          rw [List.take_of_length_le (by rw [← HNA.out]; omega), List.take_of_length_le (by rw [HNB.out]; omega)] at h
          rw [h]
          exact lexL_self b)
        go_wp2_with fail
        go_ret
        obtain ⟨k, hk⟩ := HW.out
        refine ⟨?_, k, hk⟩
        rw [HL.out]
        rfl
end Go.Proofs.Ytlcgbkeggmaljaa
