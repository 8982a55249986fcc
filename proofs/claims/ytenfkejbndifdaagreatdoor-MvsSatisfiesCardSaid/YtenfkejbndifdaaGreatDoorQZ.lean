/- Contracts of mvs.newest and names. A slice of the call's own is a slice. -/
import Derived.Test.YtenfkejbndifdaaGreatDoorQY
import Derived.Test.YtenfkejbndifdaaGreatDoorQL
import Derived.Test.YtenfkejbndifdaaGreatDoorQU
namespace Go.Proofs.YtenfkejbndifdaaGreatDoor
set_option linter.unusedVariables false
set_option linter.unusedSimpArgs false
open Go Go.RowKit Go.Maps

/-- what a naming function names. -/
def byN (nw : Bool) (X : List RelL) (mn : Int) (l : List Nat) : Option Nat := if nw = true then (match l.getLast? with
    | some i => if geB X mn i = true then some i else none
    | none => none) else l.find? (geB X mn)
theorem named_by {nw : Bool} {X : List RelL} (hX : IdxOk X) {q : ReqL} (hq : UpQ q) : namedI nw X q = byN nw X (leastV q.2).1 (availI X q.1) := by
  cases nw with
  | false => rw [named_old hX hq]; rfl
  | true => rw [named_new hX hq]; rfl
def ValidX (X : List RelL) : Prop := ∀ i, i < X.length → validB (X.getD i default).ver.1 (X.getD i default).ver.2.1 (X.getD i default).ver.2.2 = true
theorem validX {X : List RelL} (hX : IdxOk X) : ValidX X := fun i hi => (hX.rel i hi).val
/-- a naming function. -/
def BySpec (nw : Bool) (fid : Nat) (X : List RelL) : Prop := ∀ (W : World) (g : Nat) (a : Option Addr) (c m n : Nat) (f : Lit → Option Value) (l : List Nat) (lv : Value) (mn : Int), WorldOf W g X a c m n f → (∀ i ∈ l, i < X.length) → l.length ≤ 1000000 → RowOf natC W.heap.size lv l W →
  Calls Tryz.prog fid #[.pointer (some ⟨g, 0, none⟩), lv, .int .i64 mn] W fun e w' => e = .returned (.int .i64 (optN (byN nw X mn l))) ∧ Below W.heap.size W w'
theorem by_old {X : List RelL} (hv : ValidX X) (hX : X.length ≤ 1000000) : BySpec false 51 X := fun W g a c m n f l lv mn hw hl hll hL => oldest_any g X a c m n f l lv mn W hw hv hl hll hX hL
/-- what newest's region reads. -/
def HeldN (g lb lo k b o : Nat) (xv : Value) (i : Nat) (x : RelL) (r : Value) (W : World) : Prop := W.cell? ⟨g, 0, none⟩ = some xv ∧ W.cell? ⟨lb, lo + k, none⟩ = some (.int .i64 i) ∧ CellsAt W b o x r
theorem HeldN.below {g lb lo k b o : Nat} {xv : Value} {i : Nat} {x : RelL} {r : Value} {W W' : World} (h : HeldN g lb lo k b o xv i x r W) (h1 : g < W.heap.size) (h2 : lb < W.heap.size) (h3 : b < W.heap.size) (hb : Below W.heap.size W W') : HeldN g lb lo k b o xv i x r W' :=
  ⟨(hb.cell (p := ⟨g, 0, none⟩) h1).trans h.1, (hb.cell (p := ⟨lb, lo + k, none⟩) h2).trans h.2.1, h.2.2.below hb h3⟩
theorem last_row {l : List Nat} {lv : Value} {W : World} (hL : RowOf natC W.heap.size lv l W) (h : l ≠ []) : ∃ lb lo lc k, lv = .slice (some ⟨lb, lo, none⟩) (k + 1) lc ∧ lb < W.heap.size ∧ W.cell? ⟨lb, lo + k, none⟩ = some (.int .i64 (l.getLast h)) ∧ l.length = k + 1 := by
  obtain ⟨la, lc, rfl, hat⟩ := rowOf_open hL
  have hlen : 0 < l.length := List.length_pos_iff.2 h
  obtain ⟨k, hk⟩ : ∃ k, l.length = k + 1 := ⟨l.length - 1, by omega⟩
  obtain ⟨lb, lo, rfl, h1, h2⟩ := hat k (l.getLast h) (by rw [List.getLast_eq_getElem, List.getElem?_eq_getElem (by omega)]; congr 1; simp [hk])
  exact ⟨lb, lo, lc, k, by rw [hk], h1, h2, hk⟩
set_option maxRecDepth 100000 in
set_option maxHeartbeats 4000000 in
theorem newest_any (g : Nat) (X : List RelL) (a : Option Addr) (c m n : Nat) (f : Lit → Option Value) (l : List Nat) (lv : Value) (mn : Int) (w : World) (hw : WorldOf w g X a c m n f) (hv : ValidX X)
    (hl : ∀ i ∈ l, i < X.length) (hll : l.length ≤ 1000000) (hXl : X.length ≤ 1000000) (hL : RowOf natC w.heap.size lv l w) :
    Calls Tryz.prog 70 #[.pointer (some ⟨g, 0, none⟩), lv, .int .i64 mn] w fun e w' => e = .returned (.int .i64 (optN (byN true X mn l))) ∧ Below w.heap.size w w' := by
  by_cases h0 : l = []
  · subst h0
    obtain ⟨la, lc, rfl, _⟩ := rowOf_open hL
    have HC0 := Lib.hid hw.c0
    clear hw hv hl hll hL
    simp only [List.length_nil]
    go_enter Tryz.func70, Tryz.ntmps70
    go_upto_region 2 with fail
    refine wp_region_noPanic ?_
    refine wp_region_held_drew (S := HeldC ⟨g, 0, none⟩ ⟨g, 0, none⟩ (.slice a X.length c) (.slice a X.length c)) (by kernel_rfl) ⟨HC0.out, HC0.out⟩ (fun hS0 => ?_)
    (refine wpAnyH_take (i := 0) (v := ?_) rfl (by kernel_rfl) (by kernel_rfl) (by kernel_rfl) (fun _ _ _ h => h) (Or.inl ⟨by rfl, ?_⟩) (by assumption) ?_; rotate_left; (· (intro w hSw; obtain ⟨c0, c1⟩ := hSw; go_simp; try with_reducible rfl)); (try simp only [List.getElem_toArray, List.getElem_cons_zero, List.getElem_cons_succ, Act.put, List.setIfInBounds_toArray, List.set_cons_zero, List.set_cons_succ]))
    (refine wpAnyH_take (i := 1) (v := ?_) rfl (by kernel_rfl) (by kernel_rfl) (by kernel_rfl) (fun _ _ _ h => h) (Or.inl ⟨by rfl, ?_⟩) (by assumption) ?_; rotate_left; (· (intro w hSw; obtain ⟨c0, c1⟩ := hSw; go_simp; try with_reducible rfl)); (try simp only [List.getElem_toArray, List.getElem_cons_zero, List.getElem_cons_succ, Act.put, List.setIfInBounds_toArray, List.set_cons_zero, List.set_cons_succ]))
    (refine wpAnyH_take (i := 2) (v := ?_) rfl (by kernel_rfl) (by kernel_rfl) (by kernel_rfl) (fun _ _ _ h => h) (Or.inl ⟨by rfl, ?_⟩) (by assumption) ?_; rotate_left; (· (intro w hSw; obtain ⟨c0, c1⟩ := hSw; go_simp; try with_reducible rfl)); (try simp only [List.getElem_toArray, List.getElem_cons_zero, List.getElem_cons_succ, Act.put, List.setIfInBounds_toArray, List.set_cons_zero, List.set_cons_succ]))
    (refine wpAnyH_take (i := 3) (v := undef) rfl (by kernel_rfl) (by kernel_rfl) (by kernel_rfl) (fun _ _ _ h => h) (Or.inr ⟨by rfl, rfl⟩) (by assumption) ?_; (try simp only [List.getElem_toArray, List.getElem_cons_zero, List.getElem_cons_succ, Act.put, List.setIfInBounds_toArray, List.set_cons_zero, List.set_cons_succ]))
    (refine wpAnyH_take (i := 4) (v := undef) rfl (by kernel_rfl) (by kernel_rfl) (by kernel_rfl) (fun _ _ _ h => h) (Or.inr ⟨by rfl, rfl⟩) (by assumption) ?_; (try simp only [List.getElem_toArray, List.getElem_cons_zero, List.getElem_cons_succ, Act.put, List.setIfInBounds_toArray, List.set_cons_zero, List.set_cons_succ]))
    (refine wpAnyH_take (i := 5) (v := undef) rfl (by kernel_rfl) (by kernel_rfl) (by kernel_rfl) (fun _ _ _ h => h) (Or.inr ⟨by rfl, rfl⟩) (by assumption) ?_; (try simp only [List.getElem_toArray, List.getElem_cons_zero, List.getElem_cons_succ, Act.put, List.setIfInBounds_toArray, List.set_cons_zero, List.set_cons_succ]))
    (refine wpAnyH_take (i := 6) (v := undef) rfl (by kernel_rfl) (by kernel_rfl) (by kernel_rfl) (fun _ _ _ h => h) (Or.inr ⟨by rfl, rfl⟩) (by assumption) ?_; (try simp only [List.getElem_toArray, List.getElem_cons_zero, List.getElem_cons_succ, Act.put, List.setIfInBounds_toArray, List.set_cons_zero, List.set_cons_succ]))
    (refine wpAnyH_take (i := 7) (v := undef) rfl (by kernel_rfl) (by kernel_rfl) (by kernel_rfl) (fun _ _ _ h => h) (Or.inr ⟨by rfl, rfl⟩) (by assumption) ?_; (try simp only [List.getElem_toArray, List.getElem_cons_zero, List.getElem_cons_succ, Act.put, List.setIfInBounds_toArray, List.set_cons_zero, List.set_cons_succ]))
    (refine wpAnyH_take (i := 8) (v := undef) rfl (by kernel_rfl) (by kernel_rfl) (by kernel_rfl) (fun _ _ _ h => h) (Or.inr ⟨by rfl, rfl⟩) (by assumption) ?_; (try simp only [List.getElem_toArray, List.getElem_cons_zero, List.getElem_cons_succ, Act.put, List.setIfInBounds_toArray, List.set_cons_zero, List.set_cons_succ]))
    (refine wpAnyH_take (i := 9) (v := undef) rfl (by kernel_rfl) (by kernel_rfl) (by kernel_rfl) (fun _ _ _ h => h) (Or.inr ⟨by rfl, rfl⟩) (by assumption) ?_; (try simp only [List.getElem_toArray, List.getElem_cons_zero, List.getElem_cons_succ, Act.put, List.setIfInBounds_toArray, List.set_cons_zero, List.set_cons_succ]))
    (refine wpAnyH_take (i := 10) (v := undef) rfl (by kernel_rfl) (by kernel_rfl) (by kernel_rfl) (fun _ _ _ h => h) (Or.inr ⟨by rfl, rfl⟩) (by assumption) ?_; (try simp only [List.getElem_toArray, List.getElem_cons_zero, List.getElem_cons_succ, Act.put, List.setIfInBounds_toArray, List.set_cons_zero, List.set_cons_succ]))
    (refine wpAnyH_take (i := 11) (v := undef) rfl (by kernel_rfl) (by kernel_rfl) (by kernel_rfl) (fun _ _ _ h => h) (Or.inr ⟨by rfl, rfl⟩) (by assumption) ?_; (try simp only [List.getElem_toArray, List.getElem_cons_zero, List.getElem_cons_succ, Act.put, List.setIfInBounds_toArray, List.set_cons_zero, List.set_cons_succ]))
    (refine wpAnyH_take (i := 12) (v := undef) rfl (by kernel_rfl) (by kernel_rfl) (by kernel_rfl) (fun _ _ _ h => h) (Or.inr ⟨by rfl, rfl⟩) (by assumption) ?_; (try simp only [List.getElem_toArray, List.getElem_cons_zero, List.getElem_cons_succ, Act.put, List.setIfInBounds_toArray, List.set_cons_zero, List.set_cons_succ]))
    (refine wpAnyH_take (i := 13) (v := undef) rfl (by kernel_rfl) (by kernel_rfl) (by kernel_rfl) (fun _ _ _ h => h) (Or.inr ⟨by rfl, rfl⟩) (by assumption) ?_; (try simp only [List.getElem_toArray, List.getElem_cons_zero, List.getElem_cons_succ, Act.put, List.setIfInBounds_toArray, List.set_cons_zero, List.set_cons_succ]))
    (refine wpAnyH_take (i := 14) (v := undef) rfl (by kernel_rfl) (by kernel_rfl) (by kernel_rfl) (fun _ _ _ h => h) (Or.inr ⟨by rfl, rfl⟩) (by assumption) ?_; (try simp only [List.getElem_toArray, List.getElem_cons_zero, List.getElem_cons_succ, Act.put, List.setIfInBounds_toArray, List.set_cons_zero, List.set_cons_succ]))
    (refine wpAnyH_take (i := 15) (v := undef) rfl (by kernel_rfl) (by kernel_rfl) (by kernel_rfl) (fun _ _ _ h => h) (Or.inr ⟨by rfl, rfl⟩) (by assumption) ?_; (try simp only [List.getElem_toArray, List.getElem_cons_zero, List.getElem_cons_succ, Act.put, List.setIfInBounds_toArray, List.set_cons_zero, List.set_cons_succ]))
    (refine wpAnyH_take (i := 16) (v := undef) rfl (by kernel_rfl) (by kernel_rfl) (by kernel_rfl) (fun _ _ _ h => h) (Or.inr ⟨by rfl, rfl⟩) (by assumption) ?_; (try simp only [List.getElem_toArray, List.getElem_cons_zero, List.getElem_cons_succ, Act.put, List.setIfInBounds_toArray, List.set_cons_zero, List.set_cons_succ]))
    (refine wpAnyH_take (i := 17) (v := ?_) rfl (by kernel_rfl) (by kernel_rfl) (by kernel_rfl) (fun _ _ _ h => h) (Or.inl ⟨by rfl, ?_⟩) (by assumption) ?_; rotate_left; (· (intro w hSw; obtain ⟨c0, c1⟩ := hSw; go_simp; try with_reducible rfl)); (try simp only [List.getElem_toArray, List.getElem_cons_zero, List.getElem_cons_succ, Act.put, List.setIfInBounds_toArray, List.set_cons_zero, List.set_cons_succ]))
    refine wpAnyH_done (by kernel_rfl) ?_ _
    refine NoPanic.normal ?_
    go_wp2_with fail
    go_ret
    exact ⟨rfl, (Below.refl _ _).drew⟩
  · obtain ⟨lb, lo, lc, k, rfl, hlb, hlc, hk⟩ := last_row hL h0
    have HLL := Lib.hid hk
    have hix := hl (l.getLast h0) (List.getLast_mem h0)
    have HBY : Hid (byN true X mn l = if geB X mn (l.getLast h0) = true then some (l.getLast h0) else none) := Lib.hid (by unfold byN; rw [if_pos rfl, List.getLast?_eq_some_getLast h0])
    obtain ⟨R, hR⟩ : ∃ R, optN (byN true X mn l) = R := ⟨_, rfl⟩
    have HR := Lib.hid hR
    rw [hR]
    have hkm : k ≤ 1000000 := by omega
    clear hk hR hL hl hll
    generalize l.getLast h0 = i at *
    obtain ⟨b, off, ra, rc, rfl, hbl, hcs, hrq⟩ := hw.rel hix
    have HP := Lib.hid (fun W => mplace_any (X.getD i default) (.slice ra (X.getD i default).reqs.length rc) W ⟨_, _, _, rfl⟩ (hv i hix))
    have HGE : Hid (geB X mn i = decide (mn ≤ plc (X.getD i default).ver)) := Lib.hid rfl
    have hgl := hw.lt
    have HS0 : Hid (HeldN g lb lo k b (off + i * 9) (.slice (some ⟨b, off, none⟩) X.length c) i (X.getD i default) (.slice ra (X.getD i default).reqs.length rc) w) := Lib.hid ⟨hw.c0, hlc, hcs⟩
    clear hrq hcs hlc hw hv
    generalize hx : X.getD i default = x at *
    obtain ⟨pl, hpl⟩ : ∃ pl, plc x.ver = pl := ⟨_, rfl⟩
    rw [hpl] at HP HGE
    clear hx hpl
    simp only [relC] at HP
    have hix1 : (0 : Int) ≤ (i : Int) := by omega
    have hix2 : (i : Int) < (X.length : Int) := by omega
    have hk1 : (0 : Int) ≤ (k : Int) := by omega
    have hk2 : (k : Int) < ((k + 1 : Nat) : Int) := by omega
    have hk3 : (0 : Int) < ((k + 1 : Nat) : Int) := by omega
    have hk5 : (k : Int) < (k : Int) + 1 := by omega
    have hk4 : decide ((0 : Int) < ((k + 1 : Nat) : Int)) = true := decide_eq_true hk3
    have hsub : IntKind.i64.wrap (((k + 1 : Nat) : Int) - 1) = (k : Int) := by rw [IntWalk.i64_in _ (by omega)]; omega
    have hsub2 : IntKind.i64.wrap (k : Int) = (k : Int) := IntWalk.i64_in _ (by omega)
    go_enter Tryz.func70, Tryz.ntmps70
    go_upto_region 2 with fail
    refine wp_region_noPanic ?_
    refine wp_region_held_drew (S := HeldN g lb lo k b (off + i * 9) (.slice (some ⟨b, off, none⟩) X.length c) i x (.slice ra x.reqs.length rc)) (by kernel_rfl) HS0.out (fun hS0 => ?_)
    (refine wpAnyH_take (i := 0) (v := ?_) rfl (by kernel_rfl) (by kernel_rfl) (by kernel_rfl) (fun _ _ _ h => h) (Or.inl ⟨by rfl, ?_⟩) (by assumption) ?_; rotate_left; (· (intro w hSw; obtain ⟨c0, e0, d0, d1, d2, d3, d4, d5, d6, d7, d8⟩ := hSw; go_simp; try with_reducible rfl)); (try simp only [List.getElem_toArray, List.getElem_cons_zero, List.getElem_cons_succ, Act.put, List.setIfInBounds_toArray, List.set_cons_zero, List.set_cons_succ]))
    (refine wpAnyH_take (i := 1) (v := ?_) rfl (by kernel_rfl) (by kernel_rfl) (by kernel_rfl) (fun _ _ _ h => h) (Or.inl ⟨by rfl, ?_⟩) (by assumption) ?_; rotate_left; (· (intro w hSw; obtain ⟨c0, e0, d0, d1, d2, d3, d4, d5, d6, d7, d8⟩ := hSw; go_simp; try with_reducible rfl)); (try simp only [List.getElem_toArray, List.getElem_cons_zero, List.getElem_cons_succ, Act.put, List.setIfInBounds_toArray, List.set_cons_zero, List.set_cons_succ]))
    (refine wpAnyH_take (i := 2) (v := ?_) rfl (by kernel_rfl) (by kernel_rfl) (by kernel_rfl) (fun _ _ _ h => h) (Or.inl ⟨by rfl, ?_⟩) (by assumption) ?_; rotate_left; (· (intro w hSw; obtain ⟨c0, e0, d0, d1, d2, d3, d4, d5, d6, d7, d8⟩ := hSw; go_simp; try with_reducible rfl)); (try simp only [List.getElem_toArray, List.getElem_cons_zero, List.getElem_cons_succ, Act.put, List.setIfInBounds_toArray, List.set_cons_zero, List.set_cons_succ]))
    (refine wpAnyH_take (i := 3) (v := ?_) rfl (by kernel_rfl) (by kernel_rfl) (by kernel_rfl) (fun _ _ _ h => h) (Or.inl ⟨by rfl, ?_⟩) (by assumption) ?_; rotate_left; (· (intro w hSw; obtain ⟨c0, e0, d0, d1, d2, d3, d4, d5, d6, d7, d8⟩ := hSw; go_simp; try with_reducible rfl)); (try simp only [List.getElem_toArray, List.getElem_cons_zero, List.getElem_cons_succ, Act.put, List.setIfInBounds_toArray, List.set_cons_zero, List.set_cons_succ]))
    (refine wpAnyH_take (i := 4) (v := ?_) rfl (by kernel_rfl) (by kernel_rfl) (by kernel_rfl) (fun _ _ _ h => h) (Or.inl ⟨by rfl, ?_⟩) (by assumption) ?_; rotate_left; (· (intro w hSw; obtain ⟨c0, e0, d0, d1, d2, d3, d4, d5, d6, d7, d8⟩ := hSw; go_simp; try with_reducible rfl)); (try simp only [List.getElem_toArray, List.getElem_cons_zero, List.getElem_cons_succ, Act.put, List.setIfInBounds_toArray, List.set_cons_zero, List.set_cons_succ]))
    (refine wpAnyH_take (i := 5) (v := ?_) rfl (by kernel_rfl) (by kernel_rfl) (by kernel_rfl) (fun _ _ _ h => h) (Or.inl ⟨by rfl, ?_⟩) (by assumption) ?_; rotate_left; (· (intro w hSw; obtain ⟨c0, e0, d0, d1, d2, d3, d4, d5, d6, d7, d8⟩ := hSw; go_simp; try with_reducible rfl)); (try simp only [List.getElem_toArray, List.getElem_cons_zero, List.getElem_cons_succ, Act.put, List.setIfInBounds_toArray, List.set_cons_zero, List.set_cons_succ]))
    (refine wpAnyH_take (i := 6) (v := ?_) rfl (by kernel_rfl) (by kernel_rfl) (by kernel_rfl) (fun _ _ _ h => h) (Or.inl ⟨by rfl, ?_⟩) (by assumption) ?_; rotate_left; (· (intro w hSw; obtain ⟨c0, e0, d0, d1, d2, d3, d4, d5, d6, d7, d8⟩ := hSw; go_simp; try with_reducible rfl)); (try simp only [List.getElem_toArray, List.getElem_cons_zero, List.getElem_cons_succ, Act.put, List.setIfInBounds_toArray, List.set_cons_zero, List.set_cons_succ]))
    (refine wpAnyH_take (i := 7) (v := ?_) rfl (by kernel_rfl) (by kernel_rfl) (by kernel_rfl) (fun _ _ _ h => h) (Or.inl ⟨by rfl, ?_⟩) (by assumption) ?_; rotate_left; (· (intro w hSw; obtain ⟨c0, e0, d0, d1, d2, d3, d4, d5, d6, d7, d8⟩ := hSw; go_simp; try with_reducible rfl)); (try simp only [List.getElem_toArray, List.getElem_cons_zero, List.getElem_cons_succ, Act.put, List.setIfInBounds_toArray, List.set_cons_zero, List.set_cons_succ]))
    (refine wpAnyH_take (i := 8) (v := ?_) rfl (by kernel_rfl) (by kernel_rfl) (by kernel_rfl) (fun _ _ _ h => h) (Or.inl ⟨by rfl, ?_⟩) (by assumption) ?_; rotate_left; (· (intro w hSw; obtain ⟨c0, e0, d0, d1, d2, d3, d4, d5, d6, d7, d8⟩ := hSw; go_simp; try with_reducible rfl)); (try simp only [List.getElem_toArray, List.getElem_cons_zero, List.getElem_cons_succ, Act.put, List.setIfInBounds_toArray, List.set_cons_zero, List.set_cons_succ]))
    (refine wpAnyH_take (i := 9) (v := ?_) rfl (by kernel_rfl) (by kernel_rfl) (by kernel_rfl) (fun _ _ _ h => h) (Or.inl ⟨by rfl, ?_⟩) (by assumption) ?_; rotate_left; (· (intro w hSw; obtain ⟨c0, e0, d0, d1, d2, d3, d4, d5, d6, d7, d8⟩ := hSw; go_simp; try with_reducible rfl)); (try simp only [List.getElem_toArray, List.getElem_cons_zero, List.getElem_cons_succ, Act.put, List.setIfInBounds_toArray, List.set_cons_zero, List.set_cons_succ]))
    (refine wpAnyH_take (i := 10) (v := ?_) rfl (by kernel_rfl) (by kernel_rfl) (by kernel_rfl) (fun _ _ _ h => h) (Or.inl ⟨by rfl, ?_⟩) (by assumption) ?_; rotate_left; (· (intro w hSw; obtain ⟨c0, e0, d0, d1, d2, d3, d4, d5, d6, d7, d8⟩ := hSw; go_simp; try with_reducible rfl)); (try simp only [List.getElem_toArray, List.getElem_cons_zero, List.getElem_cons_succ, Act.put, List.setIfInBounds_toArray, List.set_cons_zero, List.set_cons_succ]))
    (refine wpAnyH_take (i := 11) (v := ?_) rfl (by kernel_rfl) (by kernel_rfl) (by kernel_rfl) (fun _ _ _ h => h) (Or.inl ⟨by rfl, ?_⟩) (by assumption) ?_; rotate_left; (· (intro w hSw; obtain ⟨c0, e0, d0, d1, d2, d3, d4, d5, d6, d7, d8⟩ := hSw; go_simp; try with_reducible rfl)); (try simp only [List.getElem_toArray, List.getElem_cons_zero, List.getElem_cons_succ, Act.put, List.setIfInBounds_toArray, List.set_cons_zero, List.set_cons_succ]))
    (refine wpAnyH_take (i := 12) (v := ?_) rfl (by kernel_rfl) (by kernel_rfl) (by kernel_rfl) (fun _ _ _ h => h) (Or.inl ⟨by rfl, ?_⟩) (by assumption) ?_; rotate_left; (· (intro w hSw; obtain ⟨c0, e0, d0, d1, d2, d3, d4, d5, d6, d7, d8⟩ := hSw; go_simp; try with_reducible rfl)); (try simp only [List.getElem_toArray, List.getElem_cons_zero, List.getElem_cons_succ, Act.put, List.setIfInBounds_toArray, List.set_cons_zero, List.set_cons_succ]))
    (refine wpAnyH_take (i := 13) (v := ?_) rfl (by kernel_rfl) (by kernel_rfl) (by kernel_rfl) (fun _ _ _ h => h) (Or.inl ⟨by rfl, ?_⟩) (by assumption) ?_; rotate_left; (· (intro w hSw; obtain ⟨c0, e0, d0, d1, d2, d3, d4, d5, d6, d7, d8⟩ := hSw; go_simp; try with_reducible rfl)); (try simp only [List.getElem_toArray, List.getElem_cons_zero, List.getElem_cons_succ, Act.put, List.setIfInBounds_toArray, List.set_cons_zero, List.set_cons_succ]))
    (refine wpAnyH_take (i := 15) (v := ?_) rfl (by kernel_rfl) (by kernel_rfl) (by kernel_rfl) (fun _ _ _ h => h) (Or.inl ⟨by rfl, ?_⟩) (by assumption) ?_; rotate_left; (· (intro w hSw; obtain ⟨c0, e0, d0, d1, d2, d3, d4, d5, d6, d7, d8⟩ := hSw; go_simp; try with_reducible rfl)); (try simp only [List.getElem_toArray, List.getElem_cons_zero, List.getElem_cons_succ, Act.put, List.setIfInBounds_toArray, List.set_cons_zero, List.set_cons_succ]))
    refine wpAnyH_ready (rs := [14]) (by kernel_rfl) (by simp) (AllReadyH.cons rfl (fun K hK => ?_) AllReadyH.nil)
    go_simp
    refine (HP.out _).mono ?_
    rintro e w2 ⟨rfl, hb2⟩
    have HB2 := Lib.hid ((Below.refl w.heap.size w).drew.trans hb2)
    refine hK.out _ _ (HS0.out.below hgl hlb hbl HB2.out) (fun hS2 => ?_)
    clear hK K hb2
    (try simp only [List.getElem_toArray, List.getElem_cons_zero, List.getElem_cons_succ, Act.put, List.setIfInBounds_toArray, List.set_cons_zero, List.set_cons_succ])
    (refine wpAnyH_take (i := 16) (v := ?_) rfl (by kernel_rfl) (by kernel_rfl) (by kernel_rfl) (fun _ _ _ h => h) (Or.inl ⟨by rfl, ?_⟩) (by assumption) ?_; rotate_left; (· (intro w hSw; obtain ⟨c0, e0, d0, d1, d2, d3, d4, d5, d6, d7, d8⟩ := hSw; go_simp; try with_reducible rfl)); (try simp only [List.getElem_toArray, List.getElem_cons_zero, List.getElem_cons_succ, Act.put, List.setIfInBounds_toArray, List.set_cons_zero, List.set_cons_succ]))
    (refine wpAnyH_take (i := 17) (v := ?_) rfl (by kernel_rfl) (by kernel_rfl) (by kernel_rfl) (fun _ _ _ h => h) (Or.inl ⟨by rfl, ?_⟩) (by assumption) ?_; rotate_left; (· (intro w hSw; obtain ⟨c0, e0, d0, d1, d2, d3, d4, d5, d6, d7, d8⟩ := hSw; go_simp; try with_reducible rfl)); (try simp only [List.getElem_toArray, List.getElem_cons_zero, List.getElem_cons_succ, Act.put, List.setIfInBounds_toArray, List.set_cons_zero, List.set_cons_succ]))
    refine wpAnyH_done (by kernel_rfl) ?_ _
    refine NoPanic.normal ?_
    obtain ⟨c0, e0, _⟩ := hS2
    clear HS0
    by_cases hge : mn ≤ pl
    · have hge2 : decide (mn ≤ pl) = true := decide_eq_true hge
      have HQ := Lib.hid (show R = (i : Int) by rw [← HR.out, HBY.out, if_pos (HGE.out.trans hge2)]; rfl)
      go_wp2_with fail
      go_ret
      exact ⟨by rw [HQ.out]; rfl, HB2.out⟩
    · have hge2 : decide (mn ≤ pl) = false := decide_eq_false hge
      have HQ := Lib.hid (show R = -1 by rw [← HR.out, HBY.out, if_neg (by rw [HGE.out, hge2]; decide)]; rfl)
      go_wp2_with fail
      go_ret
      exact ⟨by rw [HQ.out]; rfl, HB2.out⟩
theorem by_new {X : List RelL} (hv : ValidX X) (hX : X.length ≤ 1000000) : BySpec true 70 X := fun W g a c m n f l lv mn hw hl hll hL => newest_any g X a c m n f l lv mn W hw hv hl hll hX hL
end Go.Proofs.YtenfkejbndifdaaGreatDoor

namespace Go.Proofs.YtenfkejbndifdaaGreatDoor
set_option linter.unusedVariables false
set_option linter.unusedSimpArgs false
open Go Go.RowKit

theorem own_any {W : World} {B e s n : Nat} {v : Value} {xs : List Value} (h : W.ownsRow B e s v n xs) : ∃ a c, v = .slice a n c := by
  rcases h.2 with ⟨rfl, rfl⟩ | ⟨g, cap, cur, rfl, _⟩
  · exact ⟨_, _, rfl⟩
  · exact ⟨_, _, rfl⟩
end Go.Proofs.YtenfkejbndifdaaGreatDoor
