/- Plain: the distances that Why finds, round by round. slices.IndexFunc and ContainsFunc at numbers; the closures of Why. Plain: the root that Why chooses, and its chain. One operation of a region, by the laws for lists of operations. The library's Contains and Equal at what names releases. -/
import Derived.Test.YtenfkejbndifdaaGreatDoorWL
import Derived.Test.YtenfkejbndifdaaGreatDoorWW
import Derived.Test.YtenfkejbndifdaaGreatDoorWO
import Derived.Test.YtenfkejbndifdaaGreatDoorWG
import Derived.Test.YtenfkejbndifdaaGreatDoorWE
import Derived.Test.YtenfkejbndifdaaGreatDoorWI
import Derived.Test.YtenfkejbndifdaaGreatDoorWH
import Derived.Test.YtenfkejbndifdaaGreatDoorQShelf
import Derived.Shelf.SlicesQ.Contains
import Derived.Shelf.SlicesQ.Equal
import Derived.Laws.StructEq
namespace Go.Proofs.YtenfkejbndifdaaGreatDoor
set_option linter.unusedVariables false
set_option linter.unusedSimpArgs false
open Go Go.Maps

abbrev dD (X : List RelL) (t i : Nat) : Int := gD (dT X t) i
theorem swap_dT {X : List RelL} {t : Nat} (ht : t < X.length) : DistR (sucs X.length ((relEs X).map swapE)) 0 t (dT X t) := swap_dist X.length (relEs X) t ht
theorem edgN_mem {X : List RelL} {i j : Nat} : j ∈ edgN X i ↔ ∃ q ∈ (X.getD i default).reqs, namedI false X q = some j := by
  unfold edgN
  rw [(srtN_perm _).mem_iff, namesL_mem]
theorem dD_lo {X : List RelL} {t : Nat} (ht : t < X.length) (i : Nat) : -1 ≤ dD X t i := (swap_dT ht).lo i
theorem dD_zero {X : List RelL} {t : Nat} (ht : t < X.length) {i : Nat} : dD X t i = 0 ↔ i = t := ⟨(swap_dT ht).zero i, fun e => by rw [e]; exact (swap_dT ht).t0⟩
theorem dD_near {X : List RelL} {t : Nat} (ht : t < X.length) {i j : Nat} (hi : i < X.length) (hj : j ∈ edgN X i) (h : 0 ≤ dD X t j) : 0 ≤ dD X t i ∧ dD X t i ≤ dD X t j + 1 := by
  refine (swap_dT ht).near j h i ?_
  unfold ofP
  rw [List.mem_filter]
  refine ⟨?_, by simp⟩
  have h1 := rel_suc.2 ⟨hi, edgN_mem.1 hj⟩
  rw [mem_sucs] at h1 ⊢
  obtain ⟨a, b, c⟩ := h1
  exact ⟨b, a, List.mem_map.2 ⟨_, c, rfl⟩⟩
theorem dD_desc {X : List RelL} {t : Nat} (ht : t < X.length) {i m : Nat} (h : dD X t i = (m : Int) + 1) : ∃ j ∈ edgN X i, dD X t j = (m : Int) := by
  obtain ⟨k, hk, hm⟩ := (swap_dT ht).desc i m h
  exact ⟨k, edgN_mem.2 (rel_suc.1 hk).2, hm⟩
theorem dD_bound {X : List RelL} {t : Nat} (ht : t < X.length) (i : Nat) : dD X t i ≤ X.length := by
  have h := (swap_dT ht).bound sucs_lt (by rw [sucs_length]; exact ht) i
  rwa [sucs_length] at h
structure FarAt (X : List RelL) (t n : Nat) (s : List Nat) (done : Nat → Bool) (f : Lit → Option Value) : Prop where
  yes : ∀ i ∈ s, (0 ≤ dD X t i ∧ dD X t i ≤ n) ∨ (dD X t i = (n : Int) + 1 ∧ done i = true) → f (keyN i) = some (.int .i64 (dD X t i))
  no : ∀ i ∈ s, ¬ ((0 ≤ dD X t i ∧ dD X t i ≤ n) ∨ (dD X t i = (n : Int) + 1 ∧ done i = true)) → f (keyN i) = none
  out : ∀ q, (∀ i ∈ s, keyN i ≠ q) → f q = none
variable {X : List RelL} {t n : Nat} {s : List Nat} {done : Nat → Bool} {f : Lit → Option Value}
theorem FarAt.start (ht : t < X.length) (hs : t ∈ s) : FarAt X t 0 s (fun _ => false) (putF (fun _ => none) (.int .i64 (t : Int)) (.int .i64 0)) := by
  have key : ∀ i, (0 ≤ dD X t i ∧ dD X t i ≤ ((0 : Nat) : Int)) ∨ (dD X t i = ((0 : Nat) : Int) + 1 ∧ (fun _ => false) i = true) ↔ i = t := fun i => by
    rw [← dD_zero ht]
    constructor
    · rintro (h | ⟨_, h⟩)
      · omega
      · cases h
    · intro h; left; omega
  refine ⟨fun i hi h => ?_, fun i hi h => ?_, fun q hq => ?_⟩
  · have := (key i).1 h
    subst this
    rw [(dD_zero ht).2 rfl]
    exact putF_same _ _ _
  · exact putF_other _ _ (fun e => h ((key i).2 (keyN_inj (p := i) (q := t) e)))
  · exact putF_other _ _ (fun e => hq t hs e.symm)
def farB (f : Lit → Option Value) (n : Int) (j : Nat) : Bool := match f (keyN j) with
  | some (.int .i64 d) => decide (d = n)
  | _ => false
theorem farB_iff {f : Lit → Option Value} {n : Int} {j : Nat} : farB f n j = true ↔ f (keyN j) = some (.int .i64 n) := by
  unfold farB
  constructor
  · intro h
    split at h
    · rename_i d e
      rw [e, of_decide_eq_true h]
    · cases h
  · intro h
    rw [h]
    simp
theorem FarAt.test (h : FarAt X t n s done f) (ht : t < X.length) {i : Nat} (hi : i ∈ s) (hix : i < X.length) (hsub : ∀ j ∈ edgN X i, j ∈ s) (hd : done i = false) (hn : f (keyN i) = none) :
    ((edgN X i).any fun j => farB f (n : Int) j) = true ↔ dD X t i = (n : Int) + 1 := by
  have hni : ¬ (0 ≤ dD X t i ∧ dD X t i ≤ n) := fun h2 => by
    have := h.yes i hi (.inl h2)
    rw [hn] at this
    cases this
  have key : ∀ j ∈ s, f (keyN j) = some (.int .i64 (n : Int)) ↔ dD X t j = n := fun j hj => by
    constructor
    · intro e
      by_cases hc : (0 ≤ dD X t j ∧ dD X t j ≤ n) ∨ (dD X t j = (n : Int) + 1 ∧ done j = true)
      · have := h.yes j hj hc
        rw [e] at this
        injection this with this
        injection this with _ this
        exact this.symm
      · have := h.no j hj hc
        rw [e] at this
        cases this
    · intro e
      have := h.yes j hj (.inl (by omega))
      rwa [e] at this
  rw [List.any_eq_true]
  constructor
  · rintro ⟨j, hj, h2⟩
    have h3 := (key j (hsub j hj)).1 (farB_iff.1 h2)
    have h4 := dD_near ht hix hj (by omega)
    have := dD_lo ht i
    omega
  · intro h2
    obtain ⟨j, hj, h3⟩ := dD_desc ht h2
    exact ⟨j, hj, farB_iff.2 ((key j (hsub j hj)).2 h3)⟩
theorem FarAt.put (h : FarAt X t n s done f) {i : Nat} (hi : i ∈ s) (hd : dD X t i = (n : Int) + 1) : FarAt X t n s (fun j => done j || decide (j = i)) (putF f (.int .i64 (i : Int)) (.int .i64 ((n : Int) + 1))) := by
  have key : ∀ j, j ≠ i → putF f (.int .i64 (i : Int)) (.int .i64 ((n : Int) + 1)) (keyN j) = f (keyN j) := fun j e => putF_other _ _ (fun e2 => e (keyN_inj (p := j) (q := i) e2))
  refine ⟨fun j hj h2 => ?_, fun j hj h2 => ?_, fun q hq => ?_⟩
  · by_cases e : j = i
    · subst e
      rw [hd]
      exact putF_same _ _ _
    · rw [key j e]
      exact h.yes j hj (h2.imp id fun ⟨a, b⟩ => ⟨a, by simpa [e] using b⟩)
  · by_cases e : j = i
    · subst e
      exact absurd (.inr ⟨hd, by simp⟩) h2
    · rw [key j e]
      exact h.no j hj fun h3 => h2 (h3.imp id fun ⟨a, b⟩ => ⟨a, by simp [b]⟩)
  · have e : q ≠ .int .i64 (i : Int) := fun e => hq i hi e.symm
    rw [putF_other _ _ e]
    exact h.out q hq
theorem FarAt.skip (h : FarAt X t n s done f) {i : Nat} (hd : dD X t i ≠ (n : Int) + 1) : FarAt X t n s (fun j => done j || decide (j = i)) f := by
  refine ⟨fun j hj h2 => h.yes j hj (h2.imp id fun ⟨a, b⟩ => ⟨a, ?_⟩), fun j hj h2 => h.no j hj fun h3 => h2 (h3.imp id fun ⟨a, b⟩ => ⟨a, by simp [b]⟩), h.out⟩
  by_cases e : j = i
  · subst e; exact absurd a hd
  · simpa [e] using b
theorem FarAt.next (h : FarAt X t n s done f) (hd : ∀ i ∈ s, done i = true) : FarAt X t (n + 1) s (fun _ => false) f := by
  refine ⟨fun i hi h2 => h.yes i hi ?_, fun i hi h2 => h.no i hi fun h3 => h2 ?_, h.out⟩
  · rcases h2 with h2 | ⟨_, h2⟩
    · by_cases e : dD X t i = (n : Int) + 1
      · exact .inr ⟨e, hd i hi⟩
      · exact .inl (by omega)
    · cases h2
  · left
    rcases h3 with h3 | ⟨h3, _⟩ <;> omega
theorem FarAt.all (h : FarAt X t n s (fun _ => false) f) (ht : t < X.length) (hx : ∀ i ∈ s, i < X.length) (hsub : ∀ i ∈ s, ∀ j ∈ edgN X i, j ∈ s) (hn : ∀ i ∈ s, dD X t i ≠ n) (h0 : 0 < n) : ∀ i ∈ s, f (keyN i) = if 0 ≤ dD X t i then some (.int .i64 (dD X t i)) else none := by
  have key : ∀ m : Nat, ∀ i ∈ s, dD X t i = (n : Int) + m → False := by
    intro m
    induction m with
    | zero => exact fun i hi e => hn i hi (by simpa using e)
    | succ m ih =>
      intro i hi e
      obtain ⟨j, hj, h2⟩ := dD_desc (m := n + m) ht (i := i) (by push_cast; rw [e]; push_cast; omega)
      exact ih j (hsub i hi j hj) (by rw [h2]; push_cast; omega)
  intro i hi
  by_cases h1 : 0 ≤ dD X t i
  · rw [if_pos h1]
    refine h.yes i hi (.inl ⟨h1, ?_⟩)
    by_cases h2 : dD X t i ≤ n
    · exact h2
    · exact (key (dD X t i - n).toNat i hi (by omega)).elim
  · rw [if_neg h1]
    exact h.no i hi (by rintro (h2 | ⟨_, h2⟩) <;> first | omega | cases h2)
end Go.Proofs.YtenfkejbndifdaaGreatDoor

namespace Go.Proofs.YtenfkejbndifdaaGreatDoor
set_option linter.unusedVariables false
set_option linter.unusedSimpArgs false
open Go Go.RowKit Go.Maps

def PredN (g : Nat) (lb : Array Value) (es : List Nat) (p : Nat → Bool) (w : World) : Prop :=
  ∀ (W : World) (x : Nat), x ∈ es → Below w.heap.size w W → Calls Tryz.prog g (#[.int .i64 (x : Int)] ++ lb) W fun e w' => e = .returned (.bool (p x)) ∧ Below w.heap.size w w'
set_option maxRecDepth 100000 in
set_option maxHeartbeats 4000000 in
theorem idx_nat (g : Nat) (lb : Array Value) (eg : ∀ args w, (callFunc g args).run Tryz.prog w = .ok (.enter g args) w) (p : Nat → Bool) (v : Value) (es : List Nat) (w : World) (hes : es.length ≤ 1000000000) (hE : RowOf natC w.heap.size v es w) (hp : PredN g lb es p w) :
    Calls Tryz.prog 52 #[v, .func (.func g) #[] lb] w fun e w' => e = .returned (.int .i64 (firstI p es)) ∧ Below w.heap.size w w' := by
  obtain ⟨ao, ec, rfl, hat⟩ := rowOf_open hE
  have HE := Lib.hid hat
  clear hat
  have HP := Lib.hid hp
  obtain ⟨R, hR⟩ : ∃ R, firstI p es = R := ⟨_, rfl⟩
  have HR := Lib.hid hR
  rw [hR]
  clear hE hp hR
  go_enter Tryz.func52, Tryz.ntmps52
  go_wp2_with fail
  go_loopw [8] (fun s wr => ∃ k : Nat, k ≤ es.length ∧ s = .int .i64 k ∧ Hid (Below w.heap.size w wr) ∧ Hid (∀ x ∈ es.take k, p x = false)) (fun s _ => es.length - (intOf s).toNat)
  case atStart => exact ⟨0, by omega, rfl, Lib.hid (Below.refl _ _), Lib.hid (by simp)⟩
  case round =>
    obtain ⟨k, hk, rfl, HB, HA⟩ := hrel
    by_cases hlt : k < es.length
    · have hlt2 : (k : Int) < (es.length : Int) := by omega
      obtain ⟨b, off, rfl, hb, hc1⟩ := HE.out k es[k] (by simp [hlt])
      have hd1 := (HB.out.cell (p := ⟨b, off + k, none⟩) hb).trans hc1
      have HT : Hid (es.take (k + 1) = es.take k ++ [es[k]]) := Lib.hid (List.take_succ_eq_append_getElem hlt)
      have HF : Hid (p es[k] = true → R = (k : Int)) := Lib.hid (fun h => by rw [← HR.out]; exact firstI_at hlt HA.out h)
      have HCALL := Lib.hid (HP.out wr es[k] (List.getElem_mem hlt) HB.out)
      generalize es[k] = x at *
      cases hq : p x with
      | true =>
        rw [hq] at HCALL
        have HQ := Lib.hid (HF.out hq)
        clear hq
        go_wp2_with (go_at_fn g; refine HCALL.out.mono ?_; rintro e w' ⟨rfl, hb'⟩)
        go_ret
        exact ⟨by rw [HQ.out]; rfl, hb'⟩
      | false =>
        rw [hq] at HCALL
        have HQ := Lib.hid hq
        clear hq
        go_wp2_with (go_at_fn g; refine HCALL.out.mono ?_; rintro e w' ⟨rfl, hb'⟩)
        go_roundw
        case rel =>
          refine ⟨k + 1, by omega, by go_num, Lib.hid hb', Lib.hid ?_⟩
          rw [HT.out]
          intro y hy
          rcases List.mem_append.1 hy with hy | hy
          · exact HA.out y hy
          · rw [List.mem_singleton] at hy; rw [hy]; exact HQ.out
        case measure => simp [intOf]; omega
    · have hkk : k = es.length := by omega
      subst hkk
      rw [List.take_length] at HA
      have HN := Lib.hid (show R = -1 by rw [← HR.out]; exact firstI_none HA.out)
      go_wp2_with fail
      go_ret
      exact ⟨by rw [HN.out]; rfl, HB.out⟩
theorem has_nat (g : Nat) (lb : Array Value) (eg : ∀ args w, (callFunc g args).run Tryz.prog w = .ok (.enter g args) w) (p : Nat → Bool) (v : Value) (es : List Nat) (w : World) (hes : es.length ≤ 1000000000) (hE : RowOf natC w.heap.size v es w) (hp : PredN g lb es p w) :
    Calls Tryz.prog 55 #[v, .func (.func g) #[] lb] w fun e w' => e = .returned (.bool (es.any p)) ∧ Below w.heap.size w w' := by
  have HI := Lib.hid (idx_nat g lb eg p v es w hes hE hp)
  obtain ⟨f1, f2⟩ := firstI_any p es
  generalize firstI p es = r at HI f1 f2
  generalize es.any p = q at f1 f2 ⊢
  have HF := Lib.hid (And.intro f1 f2)
  obtain ⟨ao, ec, rfl, _⟩ := rowOf_open hE
  clear hp eg f1 f2
  go_enter Tryz.func55, Tryz.ntmps55
  go_wp2_with fail
  refine HI.out.mono ?_
  rintro e w' ⟨rfl, hb⟩
  cases q with
  | true =>
    have h0 : 0 ≤ r := HF.out.1.2 rfl
    go_wp2_with fail
    go_ret
    exact ⟨rfl, hb⟩
  | false =>
    have h2 : r < 0 := HF.out.2.2 rfl
    have h0 : ¬ 0 ≤ r := by omega
    have h1 : decide (0 ≤ r) = false := decide_eq_false h0
    go_wp2_with fail
    go_ret
    exact ⟨rfl, hb⟩
theorem run_look_F {P : Program} {k e t : TypeId} (K : Keyed P k) (ht : P.underlying t = some (.map k e)) {W : World} {z : Value} (hz : (zeroValue e).run P W = .ok z W) {b n : Nat} {f : Lit → Option Value} (hown : MapF P k W b n f) {key : Value} {kl : Lit} (hkey : keyOf P k key = some kl) : (Instr.lookup t (.map (some b)) key false).run P W = .ok ((f kl).getD z) W := by
  obtain ⟨D, h1, h2, h3, h4⟩ := hown
  obtain ⟨v, ps, hrun, hv⟩ := h1.lookup K ht hz (zd := .held z) (zp := []) rfl hkey
  rw [h4] at hv
  have e : v = (f kl).getD z := by
    unfold RV at hv
    cases hf : f kl with
    | none => rw [hf] at hv; injection hv with hv; injection hv with hv _; injection hv
    | some u => rw [hf] at hv; injection hv with hv; injection hv with hv _; injection hv
  rw [hrun, e]
def HeldP (gw g b o gp : Nat) (xv : Value) (p q : ByteArray) (W : World) : Prop := W.cell? ⟨gw, 0, none⟩ = some (.pointer (some ⟨g, 0, none⟩)) ∧ W.cell? ⟨g, 0, none⟩ = some xv ∧ W.cell? ⟨b, o, none⟩ = some (.string p) ∧ W.cell? ⟨gp, 0, none⟩ = some (.string q)
set_option maxRecDepth 100000 in
set_option maxHeartbeats 4000000 in
theorem why1_any (g gw gp : Nat) (X : List RelL) (a : Option Addr) (c m n : Nat) (f : Lit → Option Value) (i : Nat) (p : ByteArray) (W : World) (hw : WorldOf W g X a c m n f) (hi : i < X.length) (hXl : X.length ≤ 1000000) (h1 : W.cell? ⟨gw, 0, none⟩ = some (.pointer (some ⟨g, 0, none⟩))) (h2 : W.cell? ⟨gp, 0, none⟩ = some (.string p)) :
    Calls Tryz.prog 53 #[.int .i64 (i : Int), .pointer (some ⟨gw, 0, none⟩), .pointer (some ⟨gp, 0, none⟩)] W fun e w' => e = .returned (.bool (decide ((X.getD i default).path = p))) ∧ Below W.heap.size W w' := by
  obtain ⟨b, off, ra, rc, rfl, hbl, hcs, _⟩ := hw.rel hi
  have HS0 : Hid (HeldP gw g b (off + i * 9) gp (.slice (some ⟨b, off, none⟩) X.length c) (X.getD i default).path p W) := Lib.hid ⟨h1, hw.c0, hcs.1, h2⟩
  have HE : Hid (((X.getD i default).path.toList == p.toList) = decide ((X.getD i default).path = p)) := Lib.hid (eqs_dec _ _)
  generalize (X.getD i default).path = q at *
  have hi1 : (0 : Int) ≤ (i : Int) := by omega
  have hi2 : (i : Int) < (X.length : Int) := by omega
  clear hw hcs h1 h2
  go_enter Tryz.func53, Tryz.ntmps53
  go_upto_region 1 with fail
  refine wp_region_noPanic ?_
  refine wp_region_held_drew (S := HeldP gw g b (off + i * 9) gp (.slice (some ⟨b, off, none⟩) X.length c) q p) (by kernel_rfl) HS0.out (fun hS0 => ?_)
  (refine wpAnyH_take (i := 0) (v := ?_) rfl (by kernel_rfl) (by kernel_rfl) (by kernel_rfl) (fun _ _ _ h => h) (Or.inl ⟨by rfl, ?_⟩) (by assumption) ?_; rotate_left; (· (intro w hSw; obtain ⟨c0, c1, c2, c3⟩ := hSw; go_simp; try with_reducible rfl)); (try simp only [zl1, zl2, zl3, Act.put, zl4, zl5, zl6]))
  (refine wpAnyH_take (i := 1) (v := ?_) rfl (by kernel_rfl) (by kernel_rfl) (by kernel_rfl) (fun _ _ _ h => h) (Or.inl ⟨by rfl, ?_⟩) (by assumption) ?_; rotate_left; (· (intro w hSw; obtain ⟨c0, c1, c2, c3⟩ := hSw; go_simp; try with_reducible rfl)); (try simp only [zl1, zl2, zl3, Act.put, zl4, zl5, zl6]))
  (refine wpAnyH_take (i := 2) (v := ?_) rfl (by kernel_rfl) (by kernel_rfl) (by kernel_rfl) (fun _ _ _ h => h) (Or.inl ⟨by rfl, ?_⟩) (by assumption) ?_; rotate_left; (· (intro w hSw; obtain ⟨c0, c1, c2, c3⟩ := hSw; go_simp; try with_reducible rfl)); (try simp only [zl1, zl2, zl3, Act.put, zl4, zl5, zl6]))
  (refine wpAnyH_take (i := 3) (v := ?_) rfl (by kernel_rfl) (by kernel_rfl) (by kernel_rfl) (fun _ _ _ h => h) (Or.inl ⟨by rfl, ?_⟩) (by assumption) ?_; rotate_left; (· (intro w hSw; obtain ⟨c0, c1, c2, c3⟩ := hSw; go_simp; try with_reducible rfl)); (try simp only [zl1, zl2, zl3, Act.put, zl4, zl5, zl6]))
  (refine wpAnyH_take (i := 4) (v := ?_) rfl (by kernel_rfl) (by kernel_rfl) (by kernel_rfl) (fun _ _ _ h => h) (Or.inl ⟨by rfl, ?_⟩) (by assumption) ?_; rotate_left; (· (intro w hSw; obtain ⟨c0, c1, c2, c3⟩ := hSw; go_simp; try with_reducible rfl)); (try simp only [zl1, zl2, zl3, Act.put, zl4, zl5, zl6]))
  (refine wpAnyH_take (i := 5) (v := ?_) rfl (by kernel_rfl) (by kernel_rfl) (by kernel_rfl) (fun _ _ _ h => h) (Or.inl ⟨by rfl, ?_⟩) (by assumption) ?_; rotate_left; (· (intro w hSw; obtain ⟨c0, c1, c2, c3⟩ := hSw; go_simp; try with_reducible rfl)); (try simp only [zl1, zl2, zl3, Act.put, zl4, zl5, zl6]))
  (refine wpAnyH_take (i := 6) (v := ?_) rfl (by kernel_rfl) (by kernel_rfl) (by kernel_rfl) (fun _ _ _ h => h) (Or.inl ⟨by rfl, ?_⟩) (by assumption) ?_; rotate_left; (· (intro w hSw; obtain ⟨c0, c1, c2, c3⟩ := hSw; go_simp; try with_reducible rfl)); (try simp only [zl1, zl2, zl3, Act.put, zl4, zl5, zl6]))
  (refine wpAnyH_take (i := 7) (v := ?_) rfl (by kernel_rfl) (by kernel_rfl) (by kernel_rfl) (fun _ _ _ h => h) (Or.inl ⟨by rfl, ?_⟩) (by assumption) ?_; rotate_left; (· (intro w hSw; obtain ⟨c0, c1, c2, c3⟩ := hSw; go_simp; try with_reducible rfl)); (try simp only [zl1, zl2, zl3, Act.put, zl4, zl5, zl6]))
  (refine wpAnyH_take (i := 8) (v := ?_) rfl (by kernel_rfl) (by kernel_rfl) (by kernel_rfl) (fun _ _ _ h => h) (Or.inl ⟨by rfl, ?_⟩) (by assumption) ?_; rotate_left; (· (intro w hSw; obtain ⟨c0, c1, c2, c3⟩ := hSw; go_simp; try with_reducible rfl)); (try simp only [zl1, zl2, zl3, Act.put, zl4, zl5, zl6]))
  (refine wpAnyH_take (i := 9) (v := ?_) rfl (by kernel_rfl) (by kernel_rfl) (by kernel_rfl) (fun _ _ _ h => h) (Or.inl ⟨by rfl, ?_⟩) (by assumption) ?_; rotate_left; (· (intro w hSw; obtain ⟨c0, c1, c2, c3⟩ := hSw; go_simp; try with_reducible rfl)); (try simp only [zl1, zl2, zl3, Act.put, zl4, zl5, zl6]))
  (refine wpAnyH_take (i := 10) (v := ?_) rfl (by kernel_rfl) (by kernel_rfl) (by kernel_rfl) (fun _ _ _ h => h) (Or.inl ⟨by rfl, ?_⟩) (by assumption) ?_; rotate_left; (· (intro w hSw; obtain ⟨c0, c1, c2, c3⟩ := hSw; go_simp; try with_reducible rfl)); (try simp only [zl1, zl2, zl3, Act.put, zl4, zl5, zl6]))
  refine wpAnyH_done (by kernel_rfl) ?_ _
  refine NoPanic.normal ?_
  go_wp2_with fail
  go_ret
  exact ⟨congrArg (fun b => Ending.returned (.bool b)) HE.out, (Below.refl _ _).drew⟩
set_option maxRecDepth 100000 in
set_option maxHeartbeats 4000000 in
theorem why2_any (gf gn mf cnt : Nat) (f : Lit → Option Value) (n : Int) (j : Nat) (W : World) (hm : MapF Tryz.prog 3 W mf cnt f) (hj : j ≤ 1000000) (h1 : W.cell? ⟨gf, 0, none⟩ = some (.map (some mf))) (h2 : W.cell? ⟨gn, 0, none⟩ = some (.int .i64 n)) (hv : f (keyN j) = none ∨ ∃ d, f (keyN j) = some (.int .i64 d)) :
    Calls Tryz.prog 56 #[.int .i64 (j : Int), .pointer (some ⟨gf, 0, none⟩), .pointer (some ⟨gn, 0, none⟩)] W fun e w' => e = .returned (.bool (farB f n j)) ∧ Below W.heap.size W w' := by
  have HM := Lib.hid hm
  have HKY := Lib.hid (keyI (a := (j : Int)) (by omega) (by omega))
  have hztd : ∀ W, (zeroValue 3).run Tryz.prog W = .ok (.int .i64 0) W := Tryz.zeroValue3
  have HZ := Lib.hid hztd
  clear hm hztd
  rcases hv with hv | ⟨d, hv⟩
  · have HB : Hid (farB f n j = false) := Lib.hid (by unfold farB; rw [hv])
    have HL : Hid (f (.int .i64 (j : Int)) = none) := Lib.hid hv
    rw [HB.out]
    clear hv
    go_enter Tryz.func56, Tryz.ntmps56
    go_wp2_with (at_lookup; refine wpList_look_ok_F rfl _ _ 90 rfl 3 3 lawI Tryz.underlying90 (HZ.out _) mf cnt f (by rfl) HM.out _ (.int .i64 (j : Int)) rfl HKY.out ?_; rw [HL.out])
    go_ret
    exact ⟨rfl, Below.refl _ _⟩
  · have HB : Hid (farB f n j = decide (d = n)) := Lib.hid (by unfold farB; rw [hv])
    have HL : Hid (f (.int .i64 (j : Int)) = some (.int .i64 d)) := Lib.hid hv
    rw [HB.out]
    clear hv
    by_cases hd : d = n
    · subst hd
      go_enter Tryz.func56, Tryz.ntmps56
      go_wp2_with (at_lookup; refine wpList_look_ok_F rfl _ _ 90 rfl 3 3 lawI Tryz.underlying90 (HZ.out _) mf cnt f (by rfl) HM.out _ (.int .i64 (j : Int)) rfl HKY.out ?_; rw [HL.out])
      go_ret
      exact ⟨by simp, Below.refl _ _⟩
    · have hd2 : (d == n) = false := by simpa using hd
      have hd3 : decide (d = n) = false := decide_eq_false hd
      rw [hd3]
      go_enter Tryz.func56, Tryz.ntmps56
      go_wp2_with (at_lookup; refine wpList_look_ok_F rfl _ _ 90 rfl 3 3 lawI Tryz.underlying90 (HZ.out _) mf cnt f (by rfl) HM.out _ (.int .i64 (j : Int)) rfl HKY.out ?_; rw [HL.out])
      go_ret
      exact ⟨rfl, Below.refl _ _⟩
set_option maxRecDepth 100000 in
set_option maxHeartbeats 4000000 in
theorem why3_any (gf gi mf cnt : Nat) (f : Lit → Option Value) (i : Nat) (m : Nat) (j : Nat) (W : World) (hm : MapF Tryz.prog 3 W mf cnt f) (hj : j ≤ 1000000) (hi : i ≤ 1000000) (h1 : W.cell? ⟨gf, 0, none⟩ = some (.map (some mf))) (h2 : W.cell? ⟨gi, 0, none⟩ = some (.int .i64 (i : Int)))
    (hd0 : f (keyN i) = some (.int .i64 ((m : Int) + 1))) (hmm : m ≤ 1000000000) (hv : f (keyN j) = none ∨ ∃ d, f (keyN j) = some (.int .i64 d)) :
    Calls Tryz.prog 59 #[.int .i64 (j : Int), .pointer (some ⟨gf, 0, none⟩), .pointer (some ⟨gi, 0, none⟩)] W fun e w' => e = .returned (.bool (farB f m j)) ∧ Below W.heap.size W w' := by
  have HM := Lib.hid hm
  have HKY := Lib.hid (keyI (a := (j : Int)) (by omega) (by omega))
  have HKI := Lib.hid (keyI (a := (i : Int)) (by omega) (by omega))
  have hztd : ∀ W, (zeroValue 3).run Tryz.prog W = .ok (.int .i64 0) W := Tryz.zeroValue3
  have HZ := Lib.hid hztd
  have HDI : Hid (f (.int .i64 (i : Int)) = some (.int .i64 ((m : Int) + 1))) := Lib.hid hd0
  clear hm hztd hd0
  rcases hv with hv | ⟨d, hv⟩
  · have HB : Hid (farB f m j = false) := Lib.hid (by unfold farB; rw [hv])
    have HL : Hid (f (.int .i64 (j : Int)) = none) := Lib.hid hv
    rw [HB.out]
    clear hv
    go_enter Tryz.func59, Tryz.ntmps59
    go_wp2_with (at_lookup; refine wpList_look_ok_F rfl _ _ 90 rfl 3 3 lawI Tryz.underlying90 (HZ.out _) mf cnt f (by rfl) HM.out _ (.int .i64 (j : Int)) rfl HKY.out ?_; rw [HL.out])
    go_ret
    exact ⟨rfl, Below.refl _ _⟩
  · have HB : Hid (farB f m j = decide (d = m)) := Lib.hid (by unfold farB; rw [hv])
    have HL : Hid (f (.int .i64 (j : Int)) = some (.int .i64 d)) := Lib.hid hv
    rw [HB.out]
    clear hv
    have hrun := run_look_F (t := 90) lawI Tryz.underlying90 (HZ.out W) HM.out HKI.out
    rw [HDI.out] at hrun
    simp only [Option.getD_some] at hrun
    have hw1 : IntKind.i64.wrap ((m : Int) + 1 - 1) = (m : Int) := by rw [IntWalk.i64_in _ (by omega)]; omega
    have hw2 : IntKind.i64.wrap (m : Int) = (m : Int) := IntWalk.i64_in _ (by omega)
    by_cases hd : d = m
    · subst hd
      go_enter Tryz.func59, Tryz.ntmps59
      go_upto_region 2 with (at_lookup; refine wpList_look_ok_F rfl _ _ 90 rfl 3 3 lawI Tryz.underlying90 (HZ.out _) mf cnt f (by rfl) HM.out _ (.int .i64 (j : Int)) rfl HKY.out ?_; rw [HL.out])
      go_wp2_with fail
      go_ret
      exact ⟨by simp, Below.refl _ _⟩
    · have hd2 : (d == (m : Int)) = false := by simpa using hd
      have hd3 : decide (d = (m : Int)) = false := decide_eq_false hd
      rw [hd3]
      go_enter Tryz.func59, Tryz.ntmps59
      go_upto_region 2 with (at_lookup; refine wpList_look_ok_F rfl _ _ 90 rfl 3 3 lawI Tryz.underlying90 (HZ.out _) mf cnt f (by rfl) HM.out _ (.int .i64 (j : Int)) rfl HKY.out ?_; rw [HL.out])
      go_wp2_with fail
      go_ret
      exact ⟨rfl, Below.refl _ _⟩
end Go.Proofs.YtenfkejbndifdaaGreatDoor

namespace Go.Proofs.YtenfkejbndifdaaGreatDoor
set_option linter.unusedVariables false
set_option linter.unusedSimpArgs false
open Go Go.Maps

theorem first_find {α : Type} {P : α → Bool} {l : List α} : (firstI P l < 0 ∧ l.find? P = none) ∨ ∃ (k : Nat) (hk : k < l.length), firstI P l = (k : Int) ∧ l.find? P = some l[k] := by
  unfold firstI
  cases h : l.findIdx? P with
  | none =>
    left
    refine ⟨by simp, List.find?_eq_none.2 fun x hx => ?_⟩
    rw [List.findIdx?_eq_none_iff.1 h x hx]
    decide
  | some k =>
    obtain ⟨hk, h1, h2⟩ := List.findIdx?_eq_some_iff_getElem.1 h
    refine .inr ⟨k, hk, rfl, find_at hk (fun x hx => ?_) h1⟩
    obtain ⟨j, hj, rfl⟩ := List.mem_iff_getElem.1 hx
    have hj2 : j < k := by simp at hj; omega
    have := h2 j hj2
    simp only [List.getElem_take]
    simpa using this
theorem find_least {l : List Nat} (hl : l.Pairwise (· ≤ ·)) {P : Nat → Bool} {j : Nat} (h : l.find? P = some j) : j ∈ l ∧ P j = true ∧ ∀ x ∈ l, P x = true → j ≤ x := by
  induction l with
  | nil => cases h
  | cons a l ih =>
    rw [List.pairwise_cons] at hl
    cases ha : P a with
    | true =>
      rw [List.find?_cons_of_pos ha] at h
      cases h
      refine ⟨by simp, ha, fun x hx _ => ?_⟩
      rcases List.mem_cons.1 hx with rfl | hx
      · exact Nat.le_refl _
      · exact hl.1 x hx
    | false =>
      rw [List.find?_cons_of_neg (by rw [ha]; decide)] at h
      obtain ⟨h1, h2, h3⟩ := ih hl.2 h
      refine ⟨List.mem_cons_of_mem _ h1, h2, fun x hx hp => ?_⟩
      rcases List.mem_cons.1 hx with rfl | hx
      · rw [ha] at hp; cases hp
      · exact h3 x hx hp
theorem find_sorted_eq {l m : List Nat} (hl : l.Pairwise (· ≤ ·)) (hm : m.Pairwise (· ≤ ·)) (h : ∀ x, x ∈ l ↔ x ∈ m) {P Q : Nat → Bool} (hPQ : ∀ x ∈ l, P x = Q x) : l.find? P = m.find? Q := by
  cases h1 : l.find? P with
  | none =>
    symm
    rw [List.find?_eq_none] at h1 ⊢
    intro x hx
    have hx2 := (h x).2 hx
    rw [← hPQ x hx2]
    exact h1 x hx2
  | some j =>
    obtain ⟨a1, a2, a3⟩ := find_least hl h1
    cases h2 : m.find? Q with
    | none =>
      exact absurd (by rw [← hPQ j a1]; exact a2) (List.find?_eq_none.1 h2 j ((h j).1 a1))
    | some k =>
      obtain ⟨b1, b2, b3⟩ := find_least hm h2
      have hk := (h k).2 b1
      have e1 := a3 k hk (by rw [hPQ k hk]; exact b2)
      have e2 := b3 j ((h j).1 a1) (by rw [← hPQ j a1]; exact a2)
      rw [show j = k by omega]
theorem why_best {X : List RelL} {roots : List ReqL} {p : ByteArray} {t : Nat} (hp : PlainP X roots) (ha : AllM false X roots) (hrt : RchM false X roots t) (htg : tgtM X roots p = some t) :
    ∃ (r : Nat) (hr : r < roots.length) (k m : Nat), bestK (rootD X roots t) roots.length = some r ∧ namedI false X roots[r] = some k ∧ dD X t k = m ∧ whyV X roots p = ((p, (r : Int), (descP (sucs X.length (relEs X)) (dT X t) m k).map fun i => keyL (X.getD i default)), 0) := by
  have htl := hrt.lt.1
  have hm := selM_ok hp ha
  have hds : ∀ r, (hr : r < roots.length) → ∃ k, namedI false X roots[r] = some k ∧ (rootD X roots t).getD r (-1) = gD (dT X t) k := fun r hr => by
    obtain ⟨k, hk⟩ := ha.1 _ (List.getElem_mem hr)
    refine ⟨k, hk, ?_⟩
    unfold rootD
    rw [List.getD_eq_getElem?_getD, List.getElem?_map, List.getElem?_eq_getElem hr]
    simp only [Option.map_some, Option.getD_some]
    rw [hk]
  cases hb : bestK (rootD X roots t) roots.length with
  | none =>
    exfalso
    obtain ⟨q, hq, k, hk, hr⟩ := reach_rch hrt
    obtain ⟨r, hr2, rfl⟩ := List.mem_iff_getElem.1 hq
    obtain ⟨k2, hk2, hd⟩ := hds r hr2
    rw [hk] at hk2
    cases hk2
    have h1 := bestK_none hb r hr2
    obtain ⟨m, hw⟩ := hr.walk
    have := (walk_dist (swap_dist X.length (relEs X) t htl) hw).1
    unfold dT at hd
    omega
  | some r =>
    obtain ⟨hr, h0⟩ := bestK_some hb
    obtain ⟨k, hk, hd⟩ := hds r hr
    rw [hd] at h0
    obtain ⟨m, hmm⟩ : ∃ m : Nat, gD (dT X t) k = m := ⟨(gD (dT X t) k).toNat, by omega⟩
    have hpd := path_desc h0
    rw [hmm, Int.toNat_natCast] at hpd
    refine ⟨r, hr, k, m, rfl, hk, hmm, ?_⟩
    have hgr : roots.getD r default = roots[r] := by rw [List.getD_eq_getElem?_getD, List.getElem?_eq_getElem hr]; rfl
    unfold whyV
    rw [hm]
    simp only [ne_eq, not_true, if_false, htg, hb, hgr, hk, Option.getD_some]
    rw [hpd]
theorem find_edg {X : List RelL} {t : Nat} {i m : Nat} (hi : i < X.length) : ((sucs X.length (relEs X)).getD i []).find? (fun k => gD (dT X t) k == (m : Int)) = (edgN X i).find? (fun k => decide (dD X t k = (m : Int))) := by
  rw [sucs_getD _ _ _ hi]
  refine find_sorted_eq ((sucL_sorted _ _ _).imp Nat.le_of_lt) (srtN_sorted _) (fun x => ?_) (fun x _ => ?_)
  · have := rel_suc (X := X) (a := i) (b := x)
    rw [sucs_getD _ _ _ hi] at this
    rw [this]
    exact ⟨fun h => edgN_mem.2 h.2, fun h => ⟨hi, edgN_mem.1 h⟩⟩
  · rw [Bool.eq_iff_iff]
    simp
theorem desc_step {X : List RelL} {t : Nat} (ht : t < X.length) {i m : Nat} (hi : i < X.length) (hd : dD X t i = (m : Int) + 1) {P : Nat → Bool} (hP : ∀ j ∈ edgN X i, P j = decide (dD X t j = (m : Int))) :
    ∃ (n : Nat) (hn : n < (edgN X i).length), firstI P (edgN X i) = (n : Int) ∧ dD X t (edgN X i)[n] = m ∧ descP (sucs X.length (relEs X)) (dT X t) (m + 1) i = i :: descP (sucs X.length (relEs X)) (dT X t) m (edgN X i)[n] := by
  obtain ⟨j0, hj0, hm0⟩ := dD_desc ht hd
  rcases first_find (P := P) (l := edgN X i) with ⟨_, hf⟩ | ⟨n, hn, he, hf⟩
  · have := List.find?_eq_none.1 hf j0 hj0
    rw [hP j0 hj0, decide_eq_true hm0] at this
    exact absurd rfl this
  · have hmem := List.getElem_mem hn
    have h1 := List.find?_some hf
    rw [hP _ hmem] at h1
    refine ⟨n, hn, he, of_decide_eq_true h1, ?_⟩
    have hfe : (edgN X i).find? (fun k => decide (dD X t k = (m : Int))) = some (edgN X i)[n] := by
      rw [← hf]
      exact find_sorted_eq (srtN_sorted _) (srtN_sorted _) (fun x => Iff.rfl) (fun x hx => (hP x hx).symm)
    show i :: (match ((sucs X.length (relEs X)).getD i []).find? (fun k => gD (dT X t) k == (m : Int)) with
      | some k => descP (sucs X.length (relEs X)) (dT X t) m k
      | none => []) = _
    rw [find_edg hi, hfe]
end Go.Proofs.YtenfkejbndifdaaGreatDoor

namespace Go.Proofs.YtenfkejbndifdaaGreatDoor
set_option linter.unusedVariables false
set_option linter.unusedSimpArgs false
open Go Go.RowKit

def OnlyN (K : Act → World → Prop) : Exit → Act → World → Prop
  | .normal, a, w => K a w
  | _, _, _ => False
theorem oper_of_list {P : Program} {ops : Array Oper} {o : Oper} {a : Act} {w : World} {K : Act → World → Prop} {Q : Exit → Act → World → Prop} (hg : o.guard = none) (h : wpList P ops (OnlyN K) [o] a w) : o.wp P a w K Q := by
  unfold wpList at h
  rw [if_pos (by simp [Region.wanted, hg])] at h
  rcases h with h | ⟨_, a0, w0, hh⟩
  · exact oper_tail (T := OnlyN K) (fun e a w ht => by cases e <;> first | rfl | exact ht.elim) (fun a w hk => hk) h
  · exact hh.elim
theorem desc_len (S : List (List Nat)) (far : List Int) : ∀ m n, (descP S far m n).length ≤ m + 1
  | 0, n => by unfold descP; simp
  | m + 1, n => by
    unfold descP
    cases (S.getD n []).find? (fun k => gD far k == (m : Int)) with
    | none => simp
    | some k => have := desc_len S far m k; simp; omega
theorem cells_as {W W' : World} {b o : Nat} {x : RelL} {r : Value} (e : ∀ j, W'.cell? ⟨b, j, none⟩ = W.cell? ⟨b, j, none⟩) (h : CellsAt W b o x r) : CellsAt W' b o x r := by
  obtain ⟨d0, d1, d2, d3, d4, d5, d6, d7, d8⟩ := h
  exact ⟨(e _).trans d0, (e _).trans d1, (e _).trans d2, (e _).trans d3, (e _).trans d4, (e _).trans d5, (e _).trans d6, (e _).trans d7, (e _).trans d8⟩
theorem wrap_succ {k : Nat} (h : k ≤ 1000000000) : wrap64 ((k : Int) + 1) = (k : Int) + 1 := by unfold wrap64; omega
theorem wrap_pred {k : Nat} (h : k ≤ 1000000000) : wrap64 (((k + 1 : Nat) : Int) - 1) = (k : Int) := by unfold wrap64; omega
def CapOk (v : Value) : Prop := ∃ a n c, v = .slice a n c ∧ n ≤ c
theorem own_cap {W : World} {B e s n : Nat} {v : Value} {xs : List Value} (h : W.ownsRow B e s v n xs) : CapOk v := by
  rcases h.2 with ⟨rfl, _⟩ | ⟨g, cap, cur, rfl, _, _, hc, _⟩
  · exact ⟨_, _, _, rfl, Nat.le_refl _⟩
  · exact ⟨_, _, _, rfl, hc⟩
theorem CapOk.le {a : Option Addr} {n c : Nat} (h : CapOk (.slice a n c)) : n ≤ c := by
  obtain ⟨a, n, c, e, h⟩ := h
  cases e
  exact h
theorem kk0 (k : Nat) : (0 : Int) ≤ (k : Int) + 1 := by omega
theorem kk1 {k n c : Nat} (h : k < n) (h2 : n ≤ c) : (k : Int) + 1 ≤ (c : Int) := by omega
theorem kk2 {k n c : Nat} (h : k < n) (h2 : n ≤ c) : ¬ c = k := by omega
theorem kk3 {k n : Nat} (h : k < n) (h2 : n ≤ 1000000) : k ≤ 1000000000 := by omega
theorem i64_succ {k : Nat} (h : k ≤ 1000000000) : IntKind.i64.wrap ((k : Int) + 1) = (k : Int) + 1 := IntWalk.i64_in _ (by omega)
theorem some_ne {a b : Nat} (h : a ≠ b) : some a ≠ some b := fun e => h (Option.some.inj e)
theorem chain_le {α β : Type} {ch : List β} {t u : List α} {f : α → β} {m n : Nat} (h : ch ++ t.map f = u.map f) (hu : u.length ≤ m + 1) (hm : m ≤ n) : ch.length ≤ n + 1 := by
  have h := congrArg List.length h
  rw [List.length_append, List.length_map, List.length_map] at h
  omega
theorem app1 {n x : Nat} (h : n ≤ x + 1) (hx : x ≤ 1000000) : n + 1 ≤ maxLen := by unfold maxLen; omega
theorem app2 {n x : Nat} (h : n ≤ x + 1) (hx : x ≤ 1000000) : (n + 1) * 40 ≤ 140737488355328 := by omega
theorem kk4 {j n c : Nat} (h : j < n) (h2 : n ≤ c) : (j : Int) ≤ (c : Int) := by omega
theorem kk5 {j n : Nat} (h : j < n) : (j : Int) + 1 ≤ (n : Int) := by omega
theorem kk6 {j n : Nat} (h : j < n) (h2 : n ≤ 16) : j ≤ 1000000000 := by omega
theorem take_small {α : Type} {R : List α} {j : Nat} (h : R.length ≤ 16) : (R.take j).length ≤ 1000000 := by rw [List.length_take]; omega
theorem pred_succ (j : Nat) : ((j + 1 : Nat) : Int) - 1 = (j : Int) := by omega
theorem cut_small {j n : Nat} (h : j < n) (h2 : n ≤ 16) : min j n + (n - (j + 1)) ≤ 16 := by omega
theorem app3 {n : Nat} (h : n ≤ 16) : n ≤ maxLen := by unfold maxLen; omega
theorem app4 {n : Nat} (h : n ≤ 16) : n * 40 ≤ 140737488355328 := by omega
theorem drop_none {α : Type} {R : List α} {j c : Nat} (h : R.length ≤ c) (hc : c = j + 1) : R.drop (j + 1) = [] := List.drop_eq_nil_of_le (by omega)
end Go.Proofs.YtenfkejbndifdaaGreatDoor

namespace Go.Proofs.YtenfkejbndifdaaGreatDoor
set_option linter.unusedVariables false
set_option linter.unusedSimpArgs false
open Go Go.RowKit Go.Shelf Go.Lib

def selRen : Ren := ⟨fun x => if x = 6 then 112 else if x = 7 then 65 else 24, fun x => if x = 0 then 0 else if x = 3 then 3 else if x = 4 then 4 else if x = 22 then 27 else 43, fun x => x⟩
theorem selLays7 : SlLaysQ.n7 Tryz.prog selRen := {
  mixed := by kernel_rfl
  f6 := ⟨Tryz.f112.name, by decide, Tryz.func112.trans (congrArg some (by kernel_rfl))⟩
  f7 := ⟨Tryz.f65.name, by decide, Tryz.func65.trans (congrArg some (by kernel_rfl))⟩
  t0 := Tryz.underlying0
  a0 := Tryz.isAgg0
  z0 := Tryz.sizeOf0
  v0 := Tryz.zeroValue0
  t3 := Tryz.underlying3
  a3 := Tryz.isAgg3
  z3 := Tryz.sizeOf3
  v3 := Tryz.zeroValue3
  t4 := Tryz.underlying4
  a4 := Tryz.isAgg4
  z4 := Tryz.sizeOf4
  v4 := Tryz.zeroValue4
  t22 := Tryz.underlying27
  a22 := Tryz.isAgg27
  z22 := Tryz.sizeOf27
  v22 := Tryz.zeroValue27 }
theorem selLays8 : SlLaysQ.n8 Tryz.prog selRen := {
  mixed := by kernel_rfl
  f8 := ⟨Tryz.f24.name, by decide, Tryz.func24.trans (congrArg some (by kernel_rfl))⟩
  t0 := Tryz.underlying0
  a0 := Tryz.isAgg0
  z0 := Tryz.sizeOf0
  v0 := Tryz.zeroValue0
  t3 := Tryz.underlying3
  a3 := Tryz.isAgg3
  z3 := Tryz.sizeOf3
  v3 := Tryz.zeroValue3
  t4 := Tryz.underlying4
  a4 := Tryz.isAgg4
  z4 := Tryz.sizeOf4
  v4 := Tryz.zeroValue4
  t22 := Tryz.underlying27
  a22 := Tryz.isAgg27
  z22 := Tryz.sizeOf27
  v22 := Tryz.zeroValue27 }
set_option maxRecDepth 100000 in
theorem sel_neq : NeqAt Tryz.prog 43 (fun x => .agg (selC x).toArray) (fun x y => decide (x = y)) := by
  refine ⟨fun x y w => ?_, GuardAt.agg _ (by kernel_rfl)⟩
  have hS : Tryz.prog.underlying 43 = some (.struct (Tryz.prog.fieldsOf 43)) := by kernel_rfl
  have hp : Tryz.prog.stoodInHeld 43 = false := by kernel_rfl
  simp only [selC]
  rw [run_neq_struct, show (10000 : Nat) = 9999 + 1 from rfl, run_equalIn_agg w 9999 43 _ _ hS hp]
  clear hS hp
  obtain ⟨d, hd⟩ : ∃ d, (9999 : Nat) = d + 9 := ⟨9990, rfl⟩
  rw [hd]
  clear hd
  have u9 := Tryz.underlying9
  have a9 := Tryz.isAgg9
  have z9 := Tryz.sizeOf9
  have a4 := Tryz.isAgg41
  have z4 := Tryz.sizeOf41
  have hv := ver_equal
  simp only [Program.fieldsOf, Tryz.underlying43]
  go_simp
  obtain ⟨xp, x1, x2, x3⟩ := x
  obtain ⟨yp, y1, y2, y3⟩ := y
  by_cases h0 : xp.toList = yp.toList
  · have h0' := bytes_inj h0
    subst h0'
    by_cases h1 : x1 = y1 <;> by_cases h2 : x2 = y2 <;> by_cases h3 : x3 = y3 <;> simp [h1, h2, h3]
  · have h0' : ¬ xp = yp := fun e => h0 (by rw [e])
    simp [h0, h0']
theorem sels_cells {B b off cap : Nat} {es : List SelL} {w : World} (h : SelsOf B (.slice (some ⟨b, off, none⟩) es.length cap) es w) : ∀ j, j < es.length → ∀ i v, (selC es[j]!)[i]? = some v → w.cell? ⟨b, off + j * 4 + i, none⟩ = some v := by
  obtain ⟨ao, c, e, h⟩ := h
  cases e
  intro j hj i v hv
  rw [getElem!_pos es j hj] at hv
  obtain ⟨b', off', e, _, h1, h2, h3, h4⟩ := h j es[j] (by simp [hj])
  cases e
  match i, hv with
  | 0, hv => cases hv; exact h1
  | 1, hv => cases hv; exact h2
  | 2, hv => cases hv; exact h3
  | 3, hv => cases hv; exact h4
  | i + 4, hv => simp [selC] at hv
set_option maxRecDepth 100000 in
open Classical in
theorem con_sel (v : Value) (es : List SelL) (y : SelL) (w : World) (hes : es.length ≤ 1000000000) (hE : SelsOf w.heap.size v es w) :
    Calls Tryz.prog 65 #[v, .agg #[.string y.1, .int .i64 y.2.1, .int .i64 y.2.2.1, .int .i64 y.2.2.2]] w fun e w' => e = .returned (.bool (decide (y ∈ es))) ∧ Below w.heap.size w w' := by
  by_cases hp : 0 < es.length
  · have hE0 := hE
    obtain ⟨ao, c, rfl, h⟩ := hE
    obtain ⟨b, off, rfl, _⟩ := h 0 es[0] (by simp [hp])
    refine (AnyQ.slices_Contains selLays7 4 Tryz.isAgg43 Tryz.sizeOf43 selC (fun _ => rfl) _ sel_eql b off es.length c es y w (Nat.le_refl _) (by omega) (sels_cells hE0)).mono ?_
    rintro e w' ⟨rfl, hb⟩
    refine ⟨?_, hb⟩
    congr 2
    rw [List.take_length]
    by_cases hm : y ∈ es
    · rw [decide_eq_true hm, List.any_eq_true]
      exact ⟨_, hm, by simp⟩
    · rw [decide_eq_false hm, ← Bool.not_eq_true, List.any_eq_true]
      rintro ⟨z, hz, he⟩
      rw [decide_eq_true_eq] at he
      exact hm (he ▸ hz)
  · have : es = [] := List.length_eq_zero_iff.1 (by omega)
    subst this
    obtain ⟨ao, c, rfl, _⟩ := hE
    have HIX : Hid (∀ W, Calls Tryz.prog 112 #[.slice ao 0 c, .agg #[.string y.1, .int .i64 y.2.1, .int .i64 y.2.2.1, .int .i64 y.2.2.2]] W fun e w' => e = .returned (.int .i64 (-1)) ∧ Below W.heap.size W w') := Lib.hid (fun W => by
      go_enter Tryz.func112, Tryz.ntmps112
      go_wp2_with fail
      go_loopw [8] (fun q wr => q = .int .i64 0 ∧ Hid (Below W.heap.size W wr)) (fun _ _ => 0)
      case atStart => exact ⟨rfl, Lib.hid ((Below.refl _ _).alloc (Nat.le_refl _) _)⟩
      case round =>
        obtain ⟨rfl, HB⟩ := hrel
        go_wp2_with fail
        go_ret
        exact ⟨rfl, HB.out⟩)
    go_enter Tryz.func65, Tryz.ntmps65
    go_wp2_with fail
    refine (HIX.out _).mono ?_
    rintro e w1 ⟨rfl, hb1⟩
    go_wp2_with fail
    go_ret
    exact ⟨by simp, (belQ w _).trans (hb1.mono (by simp))⟩
theorem allEq_eq : ∀ {l m : List SelL}, Lib.allEq (fun x y => decide (x = y)) l m = decide (l = m)
  | [], [] => rfl
  | [], _ :: _ => by simp [Lib.allEq]
  | _ :: _, [] => by simp [Lib.allEq]
  | x :: l, y :: m => by
    unfold Lib.allEq
    rw [allEq_eq]
    by_cases h1 : x = y <;> by_cases h2 : l = m <;> simp [h1, h2]
set_option maxRecDepth 100000 in
theorem eq_sels (v u : Value) (l m : List SelL) (w : World) (hl : l.length ≤ 1000000000) (hm : m.length ≤ 1000000000) (h1 : SelsOf w.heap.size v l w) (h2 : SelsOf w.heap.size u m w) :
    Calls Tryz.prog 24 #[v, u] w fun e w' => e = .returned (.bool (decide (l = m))) ∧ Below w.heap.size w w' := by
  have g1 := h1
  have g2 := h2
  obtain ⟨a1, c1, rfl, k1⟩ := h1
  obtain ⟨a2, c2, rfl, k2⟩ := h2
  by_cases hlm : l.length = m.length
  · by_cases hp : 0 < l.length
    · obtain ⟨b1, o1, rfl, _⟩ := k1 0 l[0] (by simp [hp])
      obtain ⟨b2, o2, rfl, _⟩ := k2 0 m[0] (by simp [show 0 < m.length by omega])
      refine (AnyQ.slices_Equal selLays8 4 Tryz.isAgg43 Tryz.sizeOf43 selC (fun _ => rfl) _ sel_neq b1 o1 l.length c1 b2 o2 m.length c2 l m w (Nat.le_refl _) (Nat.le_refl _) (by omega) (by omega) (sels_cells g1) (sels_cells g2)).mono ?_
      rintro e w' ⟨rfl, q, rfl⟩
      refine ⟨?_, below_drewN_q (Below.refl _ _) _⟩
      rw [List.take_length, List.take_length, allEq_eq]
    · have e1 : l = [] := List.length_eq_zero_iff.1 (by omega)
      have e2 : m = [] := List.length_eq_zero_iff.1 (by omega)
      subst e1
      subst e2
      clear k1 k2 g1 g2 hlm hp hl hm
      go_enter Tryz.func24, Tryz.ntmps24
      go_wp2_with fail
      go_loopw [13] (fun q wr => q = .int .i64 0 ∧ wr = w) (fun _ _ => 0)
      case atStart => exact ⟨rfl, rfl⟩
      case round =>
        obtain ⟨rfl, rfl⟩ := hrel
        go_wp2_with fail
        go_ret
        exact ⟨by simp, Below.refl _ _⟩
  · have hne : ((l.length : Int) != (m.length : Int)) = true := by simp; omega
    have hd : decide (l = m) = false := decide_eq_false fun e => hlm (by rw [e])
    rw [hd]
    clear k1 k2 g1 g2
    go_enter Tryz.func24, Tryz.ntmps24
    go_wp2_with fail
    go_ret
    exact ⟨rfl, Below.refl _ _⟩
end Go.Proofs.YtenfkejbndifdaaGreatDoor
