/- Contracts of mvs.newest and names. A slice of the call's own is a slice. Contract of the world's names. -/
import Derived.Test.YtenfkejbndifdaaGreatDoorWR
import Derived.Test.YtenfkejbndifdaaGreatDoorWH
import Derived.Test.YtenfkejbndifdaaGreatDoorWP
namespace Go.Proofs.YtenfkejbndifdaaGreatDoor
set_option linter.unusedVariables false
set_option linter.unusedSimpArgs false
open Go Go.RowKit Go.Maps

def byN (nw : Bool) (X : List RelL) (mn : Int) (l : List Nat) : Option Nat := if nw = true then (match l.getLast? with
    | some i => if geB X mn i = true then some i else none
    | none => none) else l.find? (geB X mn)
theorem named_by {nw : Bool} {X : List RelL} (hX : IdxOk X) {q : ReqL} (hq : UpQ q) : namedI nw X q = byN nw X (leastV q.2).1 (availI X q.1) := by
  cases nw with
  | false => rw [named_old hX hq]; rfl
  | true => rw [named_new hX hq]; rfl
def ValidX (X : List RelL) : Prop := ∀ i, i < X.length → validB (X.getD i default).ver.1 (X.getD i default).ver.2.1 (X.getD i default).ver.2.2 = true
theorem validX {X : List RelL} (hX : IdxOk X) : ValidX X := fun i hi => (hX.rel i hi).val
def BySpec (nw : Bool) (fid : Nat) (X : List RelL) : Prop := ∀ (W : World) (g : Nat) (a : Option Addr) (c m n : Nat) (f : Lit → Option Value) (l : List Nat) (lv : Value) (mn : Int), WorldOf W g X a c m n f → (∀ i ∈ l, i < X.length) → l.length ≤ 1000000 → RowOf natC W.heap.size lv l W →
  Calls Tryz.prog fid #[.pointer (some ⟨g, 0, none⟩), lv, .int .i64 mn] W fun e w' => e = .returned (.int .i64 (optN (byN nw X mn l))) ∧ Below W.heap.size W w'
theorem by_old {X : List RelL} (hv : ValidX X) (hX : X.length ≤ 1000000) : BySpec false 51 X := fun W g a c m n f l lv mn hw hl hll hL => oldest_any g X a c m n f l lv mn W hw hv hl hll hX hL
def HeldN (g lb lo k b o : Nat) (xv : Value) (i : Nat) (x : RelL) (r : Value) (W : World) : Prop := W.cell? ⟨g, 0, none⟩ = some xv ∧ W.cell? ⟨lb, lo + k, none⟩ = some (.int .i64 i) ∧ CellsAt W b o x r
theorem HeldN.below {g lb lo k b o : Nat} {xv : Value} {i : Nat} {x : RelL} {r : Value} {W W' : World} (h : HeldN g lb lo k b o xv i x r W) (h1 : g < W.heap.size) (h2 : lb < W.heap.size) (h3 : b < W.heap.size) (hb : Below W.heap.size W W') : HeldN g lb lo k b o xv i x r W' :=
  ⟨(hb.cell (p := ⟨g, 0, none⟩) h1).trans h.1, (hb.cell (p := ⟨lb, lo + k, none⟩) h2).trans h.2.1, h.2.2.below hb h3⟩
theorem last_row {l : List Nat} {lv : Value} {W : World} (hL : RowOf natC W.heap.size lv l W) (h : l ≠ []) : ∃ lb lo lc k, lv = .slice (some ⟨lb, lo, none⟩) (k + 1) lc ∧ lb < W.heap.size ∧ W.cell? ⟨lb, lo + k, none⟩ = some (.int .i64 (l.getLast h)) ∧ l.length = k + 1 := by
  obtain ⟨la, lc, rfl, hat⟩ := rowOf_open hL
  have hlen : 0 < l.length := List.length_pos_iff.2 h
  obtain ⟨k, hk⟩ : ∃ k, l.length = k + 1 := ⟨l.length - 1, by omega⟩
  obtain ⟨lb, lo, rfl, h1, h2⟩ := hat k (l.getLast h) (by rw [List.getLast_eq_getElem, List.getElem?_eq_getElem (by omega)]; congr 1; simp [hk])
  exact ⟨lb, lo, lc, k, by rw [hk], h1, h2, hk⟩
set_option maxRecDepth 100000 in
set_option maxHeartbeats 4000000 in
theorem newest_any (g : Nat) (X : List RelL) (a : Option Addr) (c m n : Nat) (f : Lit → Option Value) (l : List Nat) (lv : Value) (mn : Int) (w : World) (hw : WorldOf w g X a c m n f) (hv : ValidX X)
    (hl : ∀ i ∈ l, i < X.length) (hll : l.length ≤ 1000000) (hXl : X.length ≤ 1000000) (hL : RowOf natC w.heap.size lv l w) :
    Calls Tryz.prog 70 #[.pointer (some ⟨g, 0, none⟩), lv, .int .i64 mn] w fun e w' => e = .returned (.int .i64 (optN (byN true X mn l))) ∧ Below w.heap.size w w' := by
  by_cases h0 : l = []
  · subst h0
    obtain ⟨la, lc, rfl, _⟩ := rowOf_open hL
    have HC0 := Lib.hid hw.c0
    clear hw hv hl hll hL
    simp only [List.length_nil]
    go_enter Tryz.func70, Tryz.ntmps70
    go_upto_region 2 with fail
    refine wp_region_noPanic ?_
    refine wp_region_held_drew (S := HeldC ⟨g, 0, none⟩ ⟨g, 0, none⟩ (.slice a X.length c) (.slice a X.length c)) (by kernel_rfl) ⟨HC0.out, HC0.out⟩ (fun hS0 => ?_)
    (refine wpAnyH_take (i := 0) (v := ?_) rfl (by kernel_rfl) (by kernel_rfl) (by kernel_rfl) (fun _ _ _ h => h) (Or.inl ⟨by rfl, ?_⟩) (by assumption) ?_; rotate_left; (· (intro w hSw; obtain ⟨c0, c1⟩ := hSw; go_simp; try with_reducible rfl)); (try simp only [zl1, zl2, zl3, Act.put, zl4, zl5, zl6]))
    (refine wpAnyH_take (i := 1) (v := ?_) rfl (by kernel_rfl) (by kernel_rfl) (by kernel_rfl) (fun _ _ _ h => h) (Or.inl ⟨by rfl, ?_⟩) (by assumption) ?_; rotate_left; (· (intro w hSw; obtain ⟨c0, c1⟩ := hSw; go_simp; try with_reducible rfl)); (try simp only [zl1, zl2, zl3, Act.put, zl4, zl5, zl6]))
    (refine wpAnyH_take (i := 2) (v := ?_) rfl (by kernel_rfl) (by kernel_rfl) (by kernel_rfl) (fun _ _ _ h => h) (Or.inl ⟨by rfl, ?_⟩) (by assumption) ?_; rotate_left; (· (intro w hSw; obtain ⟨c0, c1⟩ := hSw; go_simp; try with_reducible rfl)); (try simp only [zl1, zl2, zl3, Act.put, zl4, zl5, zl6]))
    (refine wpAnyH_take (i := 3) (v := undef) rfl (by kernel_rfl) (by kernel_rfl) (by kernel_rfl) (fun _ _ _ h => h) (Or.inr ⟨by rfl, rfl⟩) (by assumption) ?_; (try simp only [zl1, zl2, zl3, Act.put, zl4, zl5, zl6]))
    (refine wpAnyH_take (i := 4) (v := undef) rfl (by kernel_rfl) (by kernel_rfl) (by kernel_rfl) (fun _ _ _ h => h) (Or.inr ⟨by rfl, rfl⟩) (by assumption) ?_; (try simp only [zl1, zl2, zl3, Act.put, zl4, zl5, zl6]))
    (refine wpAnyH_take (i := 5) (v := undef) rfl (by kernel_rfl) (by kernel_rfl) (by kernel_rfl) (fun _ _ _ h => h) (Or.inr ⟨by rfl, rfl⟩) (by assumption) ?_; (try simp only [zl1, zl2, zl3, Act.put, zl4, zl5, zl6]))
    (refine wpAnyH_take (i := 6) (v := undef) rfl (by kernel_rfl) (by kernel_rfl) (by kernel_rfl) (fun _ _ _ h => h) (Or.inr ⟨by rfl, rfl⟩) (by assumption) ?_; (try simp only [zl1, zl2, zl3, Act.put, zl4, zl5, zl6]))
    (refine wpAnyH_take (i := 7) (v := undef) rfl (by kernel_rfl) (by kernel_rfl) (by kernel_rfl) (fun _ _ _ h => h) (Or.inr ⟨by rfl, rfl⟩) (by assumption) ?_; (try simp only [zl1, zl2, zl3, Act.put, zl4, zl5, zl6]))
    (refine wpAnyH_take (i := 8) (v := undef) rfl (by kernel_rfl) (by kernel_rfl) (by kernel_rfl) (fun _ _ _ h => h) (Or.inr ⟨by rfl, rfl⟩) (by assumption) ?_; (try simp only [zl1, zl2, zl3, Act.put, zl4, zl5, zl6]))
    (refine wpAnyH_take (i := 9) (v := undef) rfl (by kernel_rfl) (by kernel_rfl) (by kernel_rfl) (fun _ _ _ h => h) (Or.inr ⟨by rfl, rfl⟩) (by assumption) ?_; (try simp only [zl1, zl2, zl3, Act.put, zl4, zl5, zl6]))
    (refine wpAnyH_take (i := 10) (v := undef) rfl (by kernel_rfl) (by kernel_rfl) (by kernel_rfl) (fun _ _ _ h => h) (Or.inr ⟨by rfl, rfl⟩) (by assumption) ?_; (try simp only [zl1, zl2, zl3, Act.put, zl4, zl5, zl6]))
    (refine wpAnyH_take (i := 11) (v := undef) rfl (by kernel_rfl) (by kernel_rfl) (by kernel_rfl) (fun _ _ _ h => h) (Or.inr ⟨by rfl, rfl⟩) (by assumption) ?_; (try simp only [zl1, zl2, zl3, Act.put, zl4, zl5, zl6]))
    (refine wpAnyH_take (i := 12) (v := undef) rfl (by kernel_rfl) (by kernel_rfl) (by kernel_rfl) (fun _ _ _ h => h) (Or.inr ⟨by rfl, rfl⟩) (by assumption) ?_; (try simp only [zl1, zl2, zl3, Act.put, zl4, zl5, zl6]))
    (refine wpAnyH_take (i := 13) (v := undef) rfl (by kernel_rfl) (by kernel_rfl) (by kernel_rfl) (fun _ _ _ h => h) (Or.inr ⟨by rfl, rfl⟩) (by assumption) ?_; (try simp only [zl1, zl2, zl3, Act.put, zl4, zl5, zl6]))
    (refine wpAnyH_take (i := 14) (v := undef) rfl (by kernel_rfl) (by kernel_rfl) (by kernel_rfl) (fun _ _ _ h => h) (Or.inr ⟨by rfl, rfl⟩) (by assumption) ?_; (try simp only [zl1, zl2, zl3, Act.put, zl4, zl5, zl6]))
    (refine wpAnyH_take (i := 15) (v := undef) rfl (by kernel_rfl) (by kernel_rfl) (by kernel_rfl) (fun _ _ _ h => h) (Or.inr ⟨by rfl, rfl⟩) (by assumption) ?_; (try simp only [zl1, zl2, zl3, Act.put, zl4, zl5, zl6]))
    (refine wpAnyH_take (i := 16) (v := undef) rfl (by kernel_rfl) (by kernel_rfl) (by kernel_rfl) (fun _ _ _ h => h) (Or.inr ⟨by rfl, rfl⟩) (by assumption) ?_; (try simp only [zl1, zl2, zl3, Act.put, zl4, zl5, zl6]))
    (refine wpAnyH_take (i := 17) (v := ?_) rfl (by kernel_rfl) (by kernel_rfl) (by kernel_rfl) (fun _ _ _ h => h) (Or.inl ⟨by rfl, ?_⟩) (by assumption) ?_; rotate_left; (· (intro w hSw; obtain ⟨c0, c1⟩ := hSw; go_simp; try with_reducible rfl)); (try simp only [zl1, zl2, zl3, Act.put, zl4, zl5, zl6]))
    refine wpAnyH_done (by kernel_rfl) ?_ _
    refine NoPanic.normal ?_
    go_wp2_with fail
    go_ret
    exact ⟨rfl, (Below.refl _ _).drew⟩
  · obtain ⟨lb, lo, lc, k, rfl, hlb, hlc, hk⟩ := last_row hL h0
    have HLL := Lib.hid hk
    have hix := hl (l.getLast h0) (List.getLast_mem h0)
    have HBY : Hid (byN true X mn l = if geB X mn (l.getLast h0) = true then some (l.getLast h0) else none) := Lib.hid (by unfold byN; rw [if_pos rfl, List.getLast?_eq_some_getLast h0])
    obtain ⟨R, hR⟩ : ∃ R, optN (byN true X mn l) = R := ⟨_, rfl⟩
    have HR := Lib.hid hR
    rw [hR]
    have hkm : k ≤ 1000000 := by omega
    clear hk hR hL hl hll
    generalize l.getLast h0 = i at *
    obtain ⟨b, off, ra, rc, rfl, hbl, hcs, hrq⟩ := hw.rel hix
    have HP := Lib.hid (fun W => mplace_any (X.getD i default) (.slice ra (X.getD i default).reqs.length rc) W ⟨_, _, _, rfl⟩ (hv i hix))
    have HGE : Hid (geB X mn i = decide (mn ≤ plc (X.getD i default).ver)) := Lib.hid rfl
    have hgl := hw.lt
    have HS0 : Hid (HeldN g lb lo k b (off + i * 9) (.slice (some ⟨b, off, none⟩) X.length c) i (X.getD i default) (.slice ra (X.getD i default).reqs.length rc) w) := Lib.hid ⟨hw.c0, hlc, hcs⟩
    clear hrq hcs hlc hw hv
    generalize hx : X.getD i default = x at *
    obtain ⟨pl, hpl⟩ : ∃ pl, plc x.ver = pl := ⟨_, rfl⟩
    rw [hpl] at HP HGE
    clear hx hpl
    simp only [relC] at HP
    have hix1 : (0 : Int) ≤ (i : Int) := by omega
    have hix2 : (i : Int) < (X.length : Int) := by omega
    have hk1 : (0 : Int) ≤ (k : Int) := by omega
    have hk2 : (k : Int) < ((k + 1 : Nat) : Int) := by omega
    have hk3 : (0 : Int) < ((k + 1 : Nat) : Int) := by omega
    have hk5 : (k : Int) < (k : Int) + 1 := by omega
    have hk4 : decide ((0 : Int) < ((k + 1 : Nat) : Int)) = true := decide_eq_true hk3
    have hsub : IntKind.i64.wrap (((k + 1 : Nat) : Int) - 1) = (k : Int) := by rw [IntWalk.i64_in _ (by omega)]; omega
    have hsub2 : IntKind.i64.wrap (k : Int) = (k : Int) := IntWalk.i64_in _ (by omega)
    go_enter Tryz.func70, Tryz.ntmps70
    go_upto_region 2 with fail
    refine wp_region_noPanic ?_
    refine wp_region_held_drew (S := HeldN g lb lo k b (off + i * 9) (.slice (some ⟨b, off, none⟩) X.length c) i x (.slice ra x.reqs.length rc)) (by kernel_rfl) HS0.out (fun hS0 => ?_)
    (refine wpAnyH_take (i := 0) (v := ?_) rfl (by kernel_rfl) (by kernel_rfl) (by kernel_rfl) (fun _ _ _ h => h) (Or.inl ⟨by rfl, ?_⟩) (by assumption) ?_; rotate_left; (· (intro w hSw; obtain ⟨c0, e0, d0, d1, d2, d3, d4, d5, d6, d7, d8⟩ := hSw; go_simp; try with_reducible rfl)); (try simp only [zl1, zl2, zl3, Act.put, zl4, zl5, zl6]))
    (refine wpAnyH_take (i := 1) (v := ?_) rfl (by kernel_rfl) (by kernel_rfl) (by kernel_rfl) (fun _ _ _ h => h) (Or.inl ⟨by rfl, ?_⟩) (by assumption) ?_; rotate_left; (· (intro w hSw; obtain ⟨c0, e0, d0, d1, d2, d3, d4, d5, d6, d7, d8⟩ := hSw; go_simp; try with_reducible rfl)); (try simp only [zl1, zl2, zl3, Act.put, zl4, zl5, zl6]))
    (refine wpAnyH_take (i := 2) (v := ?_) rfl (by kernel_rfl) (by kernel_rfl) (by kernel_rfl) (fun _ _ _ h => h) (Or.inl ⟨by rfl, ?_⟩) (by assumption) ?_; rotate_left; (· (intro w hSw; obtain ⟨c0, e0, d0, d1, d2, d3, d4, d5, d6, d7, d8⟩ := hSw; go_simp; try with_reducible rfl)); (try simp only [zl1, zl2, zl3, Act.put, zl4, zl5, zl6]))
    (refine wpAnyH_take (i := 3) (v := ?_) rfl (by kernel_rfl) (by kernel_rfl) (by kernel_rfl) (fun _ _ _ h => h) (Or.inl ⟨by rfl, ?_⟩) (by assumption) ?_; rotate_left; (· (intro w hSw; obtain ⟨c0, e0, d0, d1, d2, d3, d4, d5, d6, d7, d8⟩ := hSw; go_simp; try with_reducible rfl)); (try simp only [zl1, zl2, zl3, Act.put, zl4, zl5, zl6]))
    (refine wpAnyH_take (i := 4) (v := ?_) rfl (by kernel_rfl) (by kernel_rfl) (by kernel_rfl) (fun _ _ _ h => h) (Or.inl ⟨by rfl, ?_⟩) (by assumption) ?_; rotate_left; (· (intro w hSw; obtain ⟨c0, e0, d0, d1, d2, d3, d4, d5, d6, d7, d8⟩ := hSw; go_simp; try with_reducible rfl)); (try simp only [zl1, zl2, zl3, Act.put, zl4, zl5, zl6]))
    (refine wpAnyH_take (i := 5) (v := ?_) rfl (by kernel_rfl) (by kernel_rfl) (by kernel_rfl) (fun _ _ _ h => h) (Or.inl ⟨by rfl, ?_⟩) (by assumption) ?_; rotate_left; (· (intro w hSw; obtain ⟨c0, e0, d0, d1, d2, d3, d4, d5, d6, d7, d8⟩ := hSw; go_simp; try with_reducible rfl)); (try simp only [zl1, zl2, zl3, Act.put, zl4, zl5, zl6]))
    (refine wpAnyH_take (i := 6) (v := ?_) rfl (by kernel_rfl) (by kernel_rfl) (by kernel_rfl) (fun _ _ _ h => h) (Or.inl ⟨by rfl, ?_⟩) (by assumption) ?_; rotate_left; (· (intro w hSw; obtain ⟨c0, e0, d0, d1, d2, d3, d4, d5, d6, d7, d8⟩ := hSw; go_simp; try with_reducible rfl)); (try simp only [zl1, zl2, zl3, Act.put, zl4, zl5, zl6]))
    (refine wpAnyH_take (i := 7) (v := ?_) rfl (by kernel_rfl) (by kernel_rfl) (by kernel_rfl) (fun _ _ _ h => h) (Or.inl ⟨by rfl, ?_⟩) (by assumption) ?_; rotate_left; (· (intro w hSw; obtain ⟨c0, e0, d0, d1, d2, d3, d4, d5, d6, d7, d8⟩ := hSw; go_simp; try with_reducible rfl)); (try simp only [zl1, zl2, zl3, Act.put, zl4, zl5, zl6]))
    (refine wpAnyH_take (i := 8) (v := ?_) rfl (by kernel_rfl) (by kernel_rfl) (by kernel_rfl) (fun _ _ _ h => h) (Or.inl ⟨by rfl, ?_⟩) (by assumption) ?_; rotate_left; (· (intro w hSw; obtain ⟨c0, e0, d0, d1, d2, d3, d4, d5, d6, d7, d8⟩ := hSw; go_simp; try with_reducible rfl)); (try simp only [zl1, zl2, zl3, Act.put, zl4, zl5, zl6]))
    (refine wpAnyH_take (i := 9) (v := ?_) rfl (by kernel_rfl) (by kernel_rfl) (by kernel_rfl) (fun _ _ _ h => h) (Or.inl ⟨by rfl, ?_⟩) (by assumption) ?_; rotate_left; (· (intro w hSw; obtain ⟨c0, e0, d0, d1, d2, d3, d4, d5, d6, d7, d8⟩ := hSw; go_simp; try with_reducible rfl)); (try simp only [zl1, zl2, zl3, Act.put, zl4, zl5, zl6]))
    (refine wpAnyH_take (i := 10) (v := ?_) rfl (by kernel_rfl) (by kernel_rfl) (by kernel_rfl) (fun _ _ _ h => h) (Or.inl ⟨by rfl, ?_⟩) (by assumption) ?_; rotate_left; (· (intro w hSw; obtain ⟨c0, e0, d0, d1, d2, d3, d4, d5, d6, d7, d8⟩ := hSw; go_simp; try with_reducible rfl)); (try simp only [zl1, zl2, zl3, Act.put, zl4, zl5, zl6]))
    (refine wpAnyH_take (i := 11) (v := ?_) rfl (by kernel_rfl) (by kernel_rfl) (by kernel_rfl) (fun _ _ _ h => h) (Or.inl ⟨by rfl, ?_⟩) (by assumption) ?_; rotate_left; (· (intro w hSw; obtain ⟨c0, e0, d0, d1, d2, d3, d4, d5, d6, d7, d8⟩ := hSw; go_simp; try with_reducible rfl)); (try simp only [zl1, zl2, zl3, Act.put, zl4, zl5, zl6]))
    (refine wpAnyH_take (i := 12) (v := ?_) rfl (by kernel_rfl) (by kernel_rfl) (by kernel_rfl) (fun _ _ _ h => h) (Or.inl ⟨by rfl, ?_⟩) (by assumption) ?_; rotate_left; (· (intro w hSw; obtain ⟨c0, e0, d0, d1, d2, d3, d4, d5, d6, d7, d8⟩ := hSw; go_simp; try with_reducible rfl)); (try simp only [zl1, zl2, zl3, Act.put, zl4, zl5, zl6]))
    (refine wpAnyH_take (i := 13) (v := ?_) rfl (by kernel_rfl) (by kernel_rfl) (by kernel_rfl) (fun _ _ _ h => h) (Or.inl ⟨by rfl, ?_⟩) (by assumption) ?_; rotate_left; (· (intro w hSw; obtain ⟨c0, e0, d0, d1, d2, d3, d4, d5, d6, d7, d8⟩ := hSw; go_simp; try with_reducible rfl)); (try simp only [zl1, zl2, zl3, Act.put, zl4, zl5, zl6]))
    (refine wpAnyH_take (i := 15) (v := ?_) rfl (by kernel_rfl) (by kernel_rfl) (by kernel_rfl) (fun _ _ _ h => h) (Or.inl ⟨by rfl, ?_⟩) (by assumption) ?_; rotate_left; (· (intro w hSw; obtain ⟨c0, e0, d0, d1, d2, d3, d4, d5, d6, d7, d8⟩ := hSw; go_simp; try with_reducible rfl)); (try simp only [zl1, zl2, zl3, Act.put, zl4, zl5, zl6]))
    refine wpAnyH_ready (rs := [14]) (by kernel_rfl) (by simp) (AllReadyH.cons rfl (fun K hK => ?_) AllReadyH.nil)
    go_simp
    refine (HP.out _).mono ?_
    rintro e w2 ⟨rfl, hb2⟩
    have HB2 := Lib.hid ((Below.refl w.heap.size w).drew.trans hb2)
    refine hK.out _ _ (HS0.out.below hgl hlb hbl HB2.out) (fun hS2 => ?_)
    clear hK K hb2
    (try simp only [zl1, zl2, zl3, Act.put, zl4, zl5, zl6])
    (refine wpAnyH_take (i := 16) (v := ?_) rfl (by kernel_rfl) (by kernel_rfl) (by kernel_rfl) (fun _ _ _ h => h) (Or.inl ⟨by rfl, ?_⟩) (by assumption) ?_; rotate_left; (· (intro w hSw; obtain ⟨c0, e0, d0, d1, d2, d3, d4, d5, d6, d7, d8⟩ := hSw; go_simp; try with_reducible rfl)); (try simp only [zl1, zl2, zl3, Act.put, zl4, zl5, zl6]))
    (refine wpAnyH_take (i := 17) (v := ?_) rfl (by kernel_rfl) (by kernel_rfl) (by kernel_rfl) (fun _ _ _ h => h) (Or.inl ⟨by rfl, ?_⟩) (by assumption) ?_; rotate_left; (· (intro w hSw; obtain ⟨c0, e0, d0, d1, d2, d3, d4, d5, d6, d7, d8⟩ := hSw; go_simp; try with_reducible rfl)); (try simp only [zl1, zl2, zl3, Act.put, zl4, zl5, zl6]))
    refine wpAnyH_done (by kernel_rfl) ?_ _
    refine NoPanic.normal ?_
    obtain ⟨c0, e0, _⟩ := hS2
    clear HS0
    by_cases hge : mn ≤ pl
    · have hge2 : decide (mn ≤ pl) = true := decide_eq_true hge
      have HQ := Lib.hid (show R = (i : Int) by rw [← HR.out, HBY.out, if_pos (HGE.out.trans hge2)]; rfl)
      go_wp2_with fail
      go_ret
      exact ⟨by rw [HQ.out]; rfl, HB2.out⟩
    · have hge2 : decide (mn ≤ pl) = false := decide_eq_false hge
      have HQ := Lib.hid (show R = -1 by rw [← HR.out, HBY.out, if_neg (by rw [HGE.out, hge2]; decide)]; rfl)
      go_wp2_with fail
      go_ret
      exact ⟨by rw [HQ.out]; rfl, HB2.out⟩
theorem by_new {X : List RelL} (hv : ValidX X) (hX : X.length ≤ 1000000) : BySpec true 70 X := fun W g a c m n f l lv mn hw hl hll hL => newest_any g X a c m n f l lv mn W hw hv hl hll hX hL
end Go.Proofs.YtenfkejbndifdaaGreatDoor

namespace Go.Proofs.YtenfkejbndifdaaGreatDoor
set_option linter.unusedVariables false
set_option linter.unusedSimpArgs false
open Go Go.RowKit

theorem own_any {W : World} {B e s n : Nat} {v : Value} {xs : List Value} (h : W.ownsRow B e s v n xs) : ∃ a c, v = .slice a n c := by
  rcases h.2 with ⟨rfl, rfl⟩ | ⟨g, cap, cur, rfl, _⟩
  · exact ⟨_, _, rfl⟩
  · exact ⟨_, _, rfl⟩
end Go.Proofs.YtenfkejbndifdaaGreatDoor

namespace Go.Proofs.YtenfkejbndifdaaGreatDoor
set_option linter.unusedVariables false
set_option linter.unusedSimpArgs false
open Go Go.RowKit Go.Maps

def NamesR (nw : Bool) (X : List RelL) (l : List ReqL) (w : World) (e : Ending) (w' : World) : Prop := Below w.heap.size w w' ∧
  ((AllN nw X l ∧ ∃ v, e = .returned (.tuple #[v, .bool true]) ∧ w'.ownsRow w.heap.size 3 1 v (namesL nw X l).length ((namesL nw X l).map natC)) ∨ (¬ AllN nw X l ∧ e = .returned (.tuple #[.slice none 0 0, .bool false])))
theorem AllN.snoc {nw : Bool} {X : List RelL} {l : List ReqL} {k i : Nat} (hk : k < l.length) (h : AllN nw X (l.take k)) (hn : namedI nw X l[k] = some i) : AllN nw X (l.take (k + 1)) := fun q hq => by
  rw [List.take_succ_eq_append_getElem hk] at hq
  rcases List.mem_append.1 hq with hq | hq
  · exact h q hq
  · rw [List.mem_singleton] at hq; rw [hq, hn]; rfl
set_option maxRecDepth 100000 in
set_option maxHeartbeats 8000000 in
theorem names_any (nw : Bool) (fid : Nat) (eg : ∀ args w, (callFunc fid args).run Tryz.prog w = .ok (.enter fid args) w) (g : Nat) (X : List RelL) (a : Option Addr) (c m n : Nat) (f : Lit → Option Value) (hby : BySpec nw fid X) (hX : IdxOk X) (hXl : X.length ≤ 1000000)
    (l : List ReqL) (lv : Value) (w : World) (hw : WorldOf w g X a c m n f) (hu : ∀ q ∈ l, UpQ q) (hll : l.length ≤ 1000000) (hq : ReqsBd l) (hL : ReqsOf w.heap.size lv l w) :
    Calls Tryz.prog 57 #[.pointer (some ⟨g, 0, none⟩), .func (.func fid) #[] #[], lv] w (NamesR nw X l w) := by
  have HW := Lib.hid hw
  have HU := Lib.hid hu
  have HQ := Lib.hid hq
  have HBY := Lib.hid hby
  have HXO := Lib.hid hX
  obtain ⟨la, lc, rfl, hat⟩ := hL
  have HAT := Lib.hid hat
  have hgl := hw.lt
  obtain ⟨i0, hi0', hz0, hz1, hz2⟩ := info_parts info_ints
  clear hw hu hq hby hX hat
  go_enter Tryz.func57, Tryz.ntmps57
  go_wp2_with fail
  go_loopw [8, 16] (fun ov p wr => ∃ k : Nat, k ≤ l.length ∧ p = .int .i64 k ∧ Hid (AllN nw X (l.take k)) ∧ Hid (wr.ownsRow w.heap.size 3 1 ov k ((namesL nw X (l.take k)).map natC)) ∧ Hid (Below w.heap.size w wr)) (fun _ p _ => l.length - (intOf p).toNat)
  case atStart => exact ⟨0, Nat.zero_le _, rfl, Lib.hid (by rintro q hq; simp at hq), Lib.hid (World.ownsRow_nil _ _ _ _), Lib.hid (Below.refl _ _)⟩
  case round =>
    obtain ⟨k, hk, rfl, HAN, HO, HB⟩ := hrel
    obtain ⟨oa, oc, rfl⟩ := own_any HO.out
    by_cases hlt : k < l.length
    case neg =>
      have hk2 : k = l.length := by omega
      subst hk2
      rw [List.take_length] at HAN HO
      have HLN := Lib.hid (namesL_all HAN.out)
      go_wp2_with fail
      go_ret2
      exact ⟨HB.out, .inl ⟨HAN.out, _, rfl, by rw [HLN.out]; exact HO.out⟩⟩
    case pos =>
      obtain ⟨b, off, r, rfl, hbl, hc1, hc2, hsp⟩ := HAT.out k l[k] (by simp [hlt])
      have HNO : Hid (namedI nw X l[k] = none → ¬ AllN nw X l) := Lib.hid (fun h ha => by have := ha l[k] (List.getElem_mem hlt); rw [h] at this; cases this)
      have HSN : Hid (∀ i, namedI nw X l[k] = some i → AllN nw X (l.take (k + 1)) ∧ namesL nw X (l.take (k + 1)) = namesL nw X (l.take k) ++ [i]) := Lib.hid (fun i h => ⟨HAN.out.snoc hlt h, by rw [List.take_succ_eq_append_getElem hlt]; exact namesL_snoc h⟩)
      have HUQ := Lib.hid (HU.out l[k] (List.getElem_mem hlt))
      have hqb := HQ.out l[k] (List.getElem_mem hlt)
      generalize l[k] = q at *
      have d0 := (HB.out.cell (p := ⟨b, off + k * 2, none⟩) hbl).trans hc1
      have d1 := (HB.out.cell (p := ⟨b, off + k * 2 + 1, none⟩) hbl).trans hc2
      have hbw : b < wr.heap.size := Nat.lt_of_lt_of_le hbl HB.out.size
      have HSP := Lib.hid ((hsp.below HB.out (Nat.le_refl _)).mono HB.out.size)
      obtain ⟨ra, rc, rfl, _⟩ := hsp
      have HNM := Lib.hid (named_by (nw := nw) HXO.out HUQ.out)
      have HLE := Lib.hid (fun W' (h : Below wr.heap.size wr W') => Least_any (.slice ra q.2.length rc) q.2 W' (by omega) ((HSP.out.below h (Nat.le_refl _)).mono h.size))
      obtain ⟨⟨mn, mb⟩, hmn⟩ : ∃ z, leastV q.2 = z := ⟨_, rfl⟩
      rw [hmn] at HLE HNM
      have HB1 : Hid (Below wr.heap.size wr (wr.alloc (.cells #[.string q.1, .slice ra q.2.length rc] 58))) := Lib.hid (belQ _ _)
      have HG1 : Hid ((wr.alloc (.cells #[.string q.1, .slice ra q.2.length rc] 58)).heap[wr.heap.size]? = some (.cells #[.string q.1, .slice ra q.2.length rc] 58 (0, 0))) := Lib.hid (World.alloc_heap_new wr _)
      have hps : q.1.size ≤ maxLen := by unfold maxLen; omega
      have hgz : wr.heap.size < (wr.alloc (.cells #[.string q.1, .slice ra q.2.length rc] 58)).heap.size := by simp
      clear hmn hc1 hc2 HSP hqb
      go_upto_region 5 with fail
      generalize wr.alloc (.cells #[.string q.1, .slice ra q.2.length rc] 58) = W1 at *
      have c0 : W1.cell? ⟨wr.heap.size, 0, none⟩ = some (.string q.1) := cell_of_row _ _ 0 _ _ _ HG1.out
      have c1 : W1.cell? ⟨wr.heap.size, 1, none⟩ = some (.slice ra q.2.length rc) := cell_of_row _ _ 1 _ _ _ HG1.out
      clear d0 d1
      go_wp2_with fail
      refine (HLE.out _ HB1.out).mono ?_
      rintro e w2 ⟨rfl, hb2⟩
      have HB2 := Lib.hid (HB1.out.trans (hb2.mono HB1.out.size))
      have HG2 := Lib.hid ((hb2.block wr.heap.size hgz).trans HG1.out)
      have hgz2 : wr.heap.size < w2.heap.size := Nat.lt_of_lt_of_le hgz hb2.size
      clear hb2 c0 c1 HB1 HG1 hgz
      go_upto_region 6 with fail
      have HBW := Lib.hid (HB.out.trans (HB2.out.mono HB.out.size))
      have HWW := Lib.hid (HW.out.below HBW.out)
      have HS : Hid (∀ W', Below w2.heap.size w2 W' → HeldW g wr.heap.size m n q.1 f W') := Lib.hid (fun W' hb => ⟨(HWW.out.below hb).c1, cell_of_row _ _ 0 _ _ _ ((hb.block _ hgz2).trans HG2.out), (HWW.out.below hb).map⟩)
      obtain ⟨rv, hrv⟩ : ∃ rv, (f (.string q.1.data.toList)).getD (.slice none 0 0) = rv := ⟨_, rfl⟩
      have HRV := Lib.hid hrv
      have HRO := Lib.hid (HWW.out.rows q.1)
      rw [hrv] at HRO
      clear hrv
      refine wp_region_noPanic ?_
      refine wp_region_held_drew (S := HeldW g wr.heap.size m n q.1 f) (by kernel_rfl) (HS.out w2 (Below.refl _ _)) (fun hS0 => ?_)
      (refine wpAnyH_take (i := 0) (v := ?_) rfl (by kernel_rfl) (by kernel_rfl) (by kernel_rfl) (fun _ _ _ h => h) (Or.inl ⟨by rfl, ?_⟩) (by assumption) ?_; rotate_left; (· (intro w hSw; obtain ⟨c0, c1, c2⟩ := hSw; go_simp; try with_reducible rfl)); (try simp only [zl1, zl2, zl3, Act.put, zl4, zl5, zl6]))
      (refine wpAnyH_take (i := 1) (v := ?_) rfl (by kernel_rfl) (by kernel_rfl) (by kernel_rfl) (fun _ _ _ h => h) (Or.inl ⟨by rfl, ?_⟩) (by assumption) ?_; rotate_left; (· (intro w hSw; obtain ⟨c0, c1, c2⟩ := hSw; go_simp; try with_reducible rfl)); (try simp only [zl1, zl2, zl3, Act.put, zl4, zl5, zl6]))
      (refine wpAnyH_take (i := 2) (v := ?_) rfl (by kernel_rfl) (by kernel_rfl) (by kernel_rfl) (fun _ _ _ h => h) (Or.inl ⟨by rfl, ?_⟩) (by assumption) ?_; rotate_left; (· (intro w hSw; obtain ⟨c0, c1, c2⟩ := hSw; go_simp; try with_reducible rfl)); (try simp only [zl1, zl2, zl3, Act.put, zl4, zl5, zl6]))
      (refine wpAnyH_take (i := 3) (v := ?_) rfl (by kernel_rfl) (by kernel_rfl) (by kernel_rfl) (fun _ _ _ h => h) (Or.inl ⟨by rfl, ?_⟩) (by assumption) ?_; rotate_left; (· (intro w hSw; obtain ⟨c0, c1, c2⟩ := hSw; go_simp; try with_reducible rfl)); (try simp only [zl1, zl2, zl3, Act.put, zl4, zl5, zl6]))
      (refine wpAnyH_take (i := 4) (v := ?_) rfl (by kernel_rfl) (by kernel_rfl) (by kernel_rfl) (fun _ _ _ h => h) (Or.inl ⟨by rfl, ?_⟩) (by assumption) ?_; rotate_left; (· (intro w hSw; obtain ⟨c0, c1, c2⟩ := hSw; go_simp; try with_reducible rfl)); (try simp only [zl1, zl2, zl3, Act.put, zl4, zl5, zl6]))
      (refine wpAnyH_take (i := 5) (v := ?_) rfl (by kernel_rfl) (by kernel_rfl) (by kernel_rfl) (fun _ _ _ h => h) (Or.inl ⟨by rfl, ?_⟩) (by assumption) ?_; rotate_left; (· (intro w hSw; obtain ⟨c0, c1, c2⟩ := hSw; go_simp; try with_reducible rfl)); (try simp only [zl1, zl2, zl3, Act.put, zl4, zl5, zl6]))
      (refine wpAnyH_take (i := 6) (v := ?_) rfl (by kernel_rfl) (by kernel_rfl) (by kernel_rfl) (fun _ _ _ h => h) (Or.inl ⟨by rfl, ?_⟩) (by assumption) ?_; rotate_left; (· (intro w hSw; obtain ⟨c0, c1, c2⟩ := hSw; go_simp; try with_reducible rfl)); (try simp only [zl1, zl2, zl3, Act.put, zl4, zl5, zl6]))
      (refine wpAnyH_take (i := 7) (v := ?_) rfl (by kernel_rfl) (by kernel_rfl) (by kernel_rfl) (fun _ _ _ h => h) (Or.inl ⟨by rfl, ?_⟩) (by assumption) ?_; rotate_left; (· (intro w hSw; obtain ⟨c0, c1, c2⟩ := hSw; go_simp; try with_reducible rfl)); (try simp only [zl1, zl2, zl3, Act.put, zl4, zl5, zl6]))
      refine wpAnyH_take (i := 8) (v := rv) rfl (by kernel_rfl) (by kernel_rfl) (by kernel_rfl) (fun _ _ _ h => h) ?look hS0 ?_
      case look =>
        rw [← HRV.out]
        exact yields_look_F rfl _ _ _ rfl 9 79 lawStr Tryz.underlying84 (fun W => Tryz.zeroValue79 W) m n f (by rfl) (fun W h => h.2.2) (.string q.1) (.string q.1.data.toList) (by rfl) (keyStr hps)
      (try simp only [zl1, zl2, zl3, Act.put, zl4, zl5, zl6])
      (refine wpAnyH_take (i := 9) (v := ?_) rfl (by kernel_rfl) (by kernel_rfl) (by kernel_rfl) (fun _ _ _ h => h) (Or.inl ⟨by rfl, ?_⟩) (by assumption) ?_; rotate_left; (· (intro w hSw; obtain ⟨c0, c1, c2⟩ := hSw; go_simp; try with_reducible rfl)); (try simp only [zl1, zl2, zl3, Act.put, zl4, zl5, zl6]))
      refine wpAnyH_ready (rs := [10]) (by kernel_rfl) (by simp) (AllReadyH.cons rfl (fun K hK => ?_) AllReadyH.nil)
      go_simp
      have HDR : Hid (Below w2.heap.size w2 w2.drew) := Lib.hid (Below.refl _ _).drew
      have hav : ∀ i ∈ availI X q.1, i < X.length := fun i hi => by
        unfold availI at hi
        exact List.mem_range.1 (List.mem_filter.1 hi).1
      have hal : (availI X q.1).length ≤ 1000000 := by
        have := availK_len X X.length q.1
        rw [availK_all] at this
        omega
      refine (HBY.out w2.drew g a c m n f (availI X q.1) rv mn (HWW.out.below HDR.out) hav hal (HRO.out.below HDR.out (Nat.le_refl _))).mono ?_
      rintro e w3 ⟨rfl, hb3⟩
      have HB3 := Lib.hid (HDR.out.trans hb3)
      clear hav hal
      refine hK.out _ _ (HS.out _ HB3.out) (fun _ => ?_)
      clear hK K hS0 hb3 HDR
      (try simp only [zl1, zl2, zl3, Act.put, zl4, zl5, zl6])
      (refine wpAnyH_take (i := 11) (v := ?_) rfl (by kernel_rfl) (by kernel_rfl) (by kernel_rfl) (fun _ _ _ h => h) (Or.inl ⟨by rfl, ?_⟩) (by assumption) ?_; rotate_left; (· (intro w hSw; obtain ⟨c0, c1, c2⟩ := hSw; go_simp; try with_reducible rfl)); (try simp only [zl1, zl2, zl3, Act.put, zl4, zl5, zl6]))
      refine wpAnyH_done (by kernel_rfl) ?_ _
      refine NoPanic.normal ?_
      have HB4 := Lib.hid (HB2.out.trans (HB3.out.mono HB2.out.size))
      have HOA : Hid (w3.ownsRow w.heap.size 3 1 (.slice oa k oc) k ((namesL nw X (l.take k)).map natC)) := Lib.hid (own_far HO.out (fun i hi => HB4.out.block i (HO.out.lt i hi).2))
      have HBZ := Lib.hid (HB.out.trans (HB4.out.mono HB.out.size))
      have hs3 := HBZ.out.size
      rw [← HNM.out]
      clear HS HB3 HB2 HG2 HWW HRO HO HNM
      cases hnm : namedI nw X q with
      | none =>
        have HN := Lib.hid (HNO.out hnm)
        clear hnm
        have h01 : optN none < 0 := by decide
        have h02 : decide (optN none < 0) = true := decide_eq_true h01
        go_wp2_with fail
        go_ret2
        exact ⟨HBZ.out, .inr ⟨HN.out, rfl⟩⟩
      | some i =>
        obtain ⟨hs1, hs2⟩ := HSN.out i hnm
        have HS1 := Lib.hid hs1
        have HS2 := Lib.hid hs2
        clear hnm hs1 hs2
        have h01 : ¬ ((i : Int) < 0) := by omega
        have h02 : decide ((i : Int) < 0) = false := decide_eq_false h01
        simp only [optN]
        have HN9 : Hid ((w3.alloc (.cells #[.int .i64 (i : Int)] 3)).heap[w3.heap.size]? = some (.cells #[.int .i64 (i : Int)] 3)) := Lib.hid (heap_alloc_new w3 _)
        go_wp2_with (at_builtin; refine wpList_append_own _ rfl _ _ 79 rfl w.heap.size 3 i0 _ 1 8 Tryz.underlying79 hi0' hz0 hz1 hz2 rfl (by decide) (.slice oa k oc) _ _ (by rfl) (HOA.out.alloc _) ⟨w3.heap.size, 0, none⟩ 1 1 [.int .i64 (i : Int)] (by rfl) (by rfl) (World.news_of_block HN9.out) (by simp [Value.oneCell']) (by unfold maxLen; omega) (by omega) (by simp; omega) ?_; intro v' wB hown' hgrow _; have HOW := Lib.hid hown'; have HGR := Lib.hid hgrow; clear hown' hgrow; obtain ⟨g3, gc3, rfl⟩ := ownsRow_succ HOW.out)
        go_roundw
        case rel => exact ⟨k + 1, by omega, by go_num, HS1, Lib.hid (by rw [HS2.out, List.map_append]; exact HOW.out), Lib.hid ((HBZ.out.alloc hs3 _).grown HGR.out (by simp; omega) (fun b hb => (HOA.out.lt b hb).1))⟩
        case measure => simp [intOf]; omega
end Go.Proofs.YtenfkejbndifdaaGreatDoor
