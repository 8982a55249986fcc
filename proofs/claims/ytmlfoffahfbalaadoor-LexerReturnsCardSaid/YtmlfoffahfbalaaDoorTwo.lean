/- Two builders side by side: what an append to the bytes of one leaves of the other. -/
import Derived.Test.YtmlfoffahfbalaaDoorQuote
import Derived.Test.YtmlfoffahfbalaaDoorOwn
import Derived.Lib.AppendStr
import Derived.Shelf.RegionOpenPlain
import Derived.Lib.UnsafeStr
import Derived.WalkKit
namespace Go.Proofs.YtmlfoffahfbalaaDoor
open Go Go.RowKit

/-- an append of a string: the new row is the old block, or a new one. -/
theorem app_fresh (w : World) (base : Nat) (ty : TypeId) (v : Value) (n : Nat) (xs : List Value) (hown : w.ownsRow base 5 1 v n xs) (s : ByteArray) (h63 : n + s.size ≤ maxLen) (hb : n + s.size ≤ 140737488355328) (hbase : base ≤ w.heap.size) :
    ∃ v' w', (Builtin.append_ #[37, 9] ty #[v, .string s]).run Tryd.prog w = .ok v' w' ∧ w'.ownsRow base 5 1 v' (n + s.size) (xs ++ Lib.strCells s) ∧ w.grownBy w' v.ownBlock ∧
      (v'.ownBlock = none ∨ v'.ownBlock = v.ownBlock ∨ v'.ownBlock = some w.heap.size) := by
  obtain ⟨i0, hi, hz0, hz1, hz2⟩ := info_parts info_bytes
  obtain ⟨v', w', hr, h2, h3, h4⟩ := Lib.run_append_own_string (P := Tryd.prog) w base 37 9 ty 5 i0 Tryd.underlying37 Tryd.underlying9 hi hz0 hz1 hz2 v n xs hown s h63 hb hbase
  refine ⟨v', w', hr, h2, h3, ?_⟩
  have hsmall : n + s.size ≤ 9223372036854775807 := by simp only [maxLen] at h63; omega
  rcases hown.2 with ⟨rfl, rfl⟩ | ⟨g, cap, cur, rfl, hbg, hg, hnc, hcm, hcs, htake⟩
  · by_cases hm : s.size = 0
    · rw [h4.2 ⟨rfl, hm⟩]; exact .inl rfl
    · have hr2 := run_append_nil_string (P := Tryd.prog) w 37 9 ty 5 i0 (.int .u8 0) Tryd.underlying37 Tryd.underlying9 hi hz0 s (by omega) (by omega) (by rw [hz2]; omega)
      rw [hr] at hr2
      cases hr2
      exact .inr (.inr rfl)
  · by_cases hroom : n + s.size ≤ cap
    · have hcs' : cur.size = cap := by simpa using hcs
      have hr2 := Lib.run_append_room_string (P := Tryd.prog) w 37 9 ty 5 i0 Tryd.underlying37 Tryd.underlying9 hi hz1 g n cap cur hg s hroom (by omega)
      rw [hr] at hr2
      cases hr2
      exact .inr (.inl rfl)
    · have holds : ∀ j u, xs[j]? = some u → w.cell? ((⟨g, 0, none⟩ : Addr).add j) = some u := hown.cells (g := g) rfl
      have hr2 := Lib.run_append_grow_string (P := Tryd.prog) w 37 9 ty 5 i0 (.int .u8 0) Tryd.underlying37 Tryd.underlying9 hi hz0 ⟨g, 0, none⟩ n cap xs (by rw [hz1]; simpa using hown.1) holds s (by omega) (by omega) (by rw [hz2]; exact growslice_fits (by omega) (by omega))
      rw [hr] at hr2
      cases hr2
      exact .inr (.inr rfl)

/-- the builder in block b holds some bytes; its row lies in block r. -/
def BT (B b : Nat) (r : Option Nat) (bs : List Value) (w : World) : Prop :=
  B ≤ b ∧ ∃ p v, (p = .pointer none ∨ p = .pointer (some ⟨b, 0, none⟩)) ∧ w.heap[b]? = some (.cells #[p, v] 40 (0, 0)) ∧ w.ownsRow B 5 1 v bs.length bs ∧ v.ownBlock = r
/-- what a write to a builder leaves. -/
def WroteR (B b : Nat) (r : Option Nat) (bs : List Value) (w w' : World) : Prop :=
  ∃ r', BT B b r' bs w' ∧ (r' = none ∨ r' = r ∨ ∃ k, r' = some k ∧ w.heap.size ≤ k) ∧ w.heap.size ≤ w'.heap.size ∧ Below B w w' ∧ ∀ k, k < w.heap.size → k ≠ b → some k ≠ r → w'.heap[k]? = w.heap[k]?

theorem copyCheck_two (B b : Nat) (r : Option Nat) (bs : List Value) (w : World) (h : BT B b r bs w) :
    Calls Tryd.prog 54 #[.pointer (some ⟨b, 0, none⟩)] w fun e w' => e = .returned (.tuple #[]) ∧ WroteR B b r bs w w' ∧ ∃ v, w'.heap[b]? = some (.cells #[.pointer (some ⟨b, 0, none⟩), v] 40 (0, 0)) := by
  obtain ⟨hB, p, v, hp, hb, ho, hr⟩ := h
  have hlt : b < w.heap.size := (Array.getElem?_eq_some_iff.1 hb).1
  have hne : v.ownBlock ≠ some b := Lib.ownBlock_ne ho hb (by decide)
  rcases hp with rfl | rfl
  · have h0 : w.cell? ⟨b, 0, none⟩ = some (.pointer none) := by rw [Lib.cell_of_heap hb]; rfl
    refine (Any.Builder_copyCheck_fresh { Tryd.laysB166 with } Tryd.bExtra.toX72 b w h0 (by simp [World.shape?, hb]; rfl) (Lib.frozen_of_heap hb 0)).mono ?_
    rintro e w' ⟨rfl, rfl⟩
    have hb2 : (w.setCell ⟨b, 0, none⟩ (.pointer (some ⟨b, 0, none⟩))).heap[b]? = some (.cells #[.pointer (some ⟨b, 0, none⟩), v] 40 (0, 0)) := by simp [World.setCell, Array.getElem?_modify, hb]
    refine ⟨rfl, ⟨r, ⟨hB, _, v, .inr rfl, hb2, ho.kept (row := some b) ⟨rfl, rfl, rfl, by simp [World.setCell], fun k _ hk => Below.heap_setCell _ _ _ _ (fun e => hk (by simp [e]))⟩ (.inr hne), hr⟩, .inr (.inl rfl), by simp, (Below.refl _ _).setCell (p := ⟨b, 0, none⟩) hB _, fun k _ hk _ => Below.heap_setCell _ _ _ _ hk⟩, v, hb2⟩
  · have h0 : w.cell? ⟨b, 0, none⟩ = some (.pointer (some ⟨b, 0, none⟩)) := by rw [Lib.cell_of_heap hb]; rfl
    refine (Any.Builder_copyCheck_used { Tryd.laysB166 with } Tryd.bExtra.toX72 b w h0).mono ?_
    rintro e w' ⟨rfl, rfl⟩
    exact ⟨rfl, ⟨r, ⟨hB, _, v, .inr rfl, hb, ho, hr⟩, .inr (.inl rfl), Nat.le_refl _, Below.refl _ _, fun _ _ _ _ => rfl⟩, v, hb⟩

/-- the append as an operation of the walk. -/
theorem wp_fresh {ops : Array Oper} {rest : List Oper} {o : Oper} {a : Act} {Q : Exit → Act → World → Prop} (w : World) (hgd : o.guard = none) (sl x : Operand)
    (ho : o.op = .call { callee := .builtin .append, args := #[sl, x], argTypes := #[37, 9] }) (base : Nat) (v : Value) (n : Nat) (xs : List Value) (hs : a.eval sl = v) (hown : w.ownsRow base 5 1 v n xs) (s : ByteArray) (hx : a.eval x = .string s)
    (h63 : n + s.size ≤ maxLen) (hb : n + s.size ≤ 140737488355328) (hbase : base ≤ w.heap.size)
    (h : ∀ v' w', w'.ownsRow base 5 1 v' (n + s.size) (xs ++ Lib.strCells s) → w.grownBy w' v.ownBlock → (v'.ownBlock = none ∨ v'.ownBlock = v.ownBlock ∨ v'.ownBlock = some w.heap.size) → wpList Tryd.prog ops Q rest (a.put o.dst v') w') : wpList Tryd.prog ops Q (o :: rest) a w := by
  refine wpList_plain hgd fun K hK => ?_
  obtain ⟨v', w', hr, h2, h3, h4⟩ := app_fresh w base o.type v n xs hown s h63 hb hbase
  unfold Oper.wp execOp
  simp only [ho, resolve, invoke, builtin, Sem.run_bind, Sem.run_pure, Result.andThen_ok, List.map_toArray, List.map_cons, List.map_nil, hs, hx, hr]
  exact hK _ _ (h v' w' h2 h3 h4)

theorem slice_of {w : World} {B : Nat} {e : TypeId} {size : Nat} {v : Value} {n : Nat} {xs : List Value} (h : w.ownsRow B e size v n xs) : ∃ ao n' cap, v = .slice ao n' cap := by
  rcases h.2 with ⟨hv, _⟩ | ⟨g, cap, cur, hv, _⟩
  · exact ⟨_, _, _, hv⟩
  · exact ⟨_, _, _, hv⟩
set_option maxHeartbeats 1000000 in
theorem WriteString_two (B b : Nat) (r : Option Nat) (bs : List Value) (s : ByteArray) (w : World) (h : BT B b r bs w) (hl : bs.length + s.size ≤ 4000000000) :
    Calls Tryd.prog 27 #[.pointer (some ⟨b, 0, none⟩), .string s] w fun e w' => e = .returned (.tuple #[.int .i64 s.size, .nilIface]) ∧ WroteR B b r (bs ++ Lib.strCells s) w w' := by
  go_enter Tryd.func27, Tryd.ntmps27
  go_wp2_with fail
  refine (copyCheck_two B b r bs w h).mono ?_
  rintro e w1 ⟨rfl, ⟨r1, ⟨hB, p, v, hp, hb, ho, hr⟩, h1, h2, h3, h4⟩, v0, hb0⟩
  obtain ⟨rfl, rfl⟩ : p = .pointer (some ⟨b, 0, none⟩) ∧ v0 = v := by
    rw [hb] at hb0
    have := Option.some.inj hb0
    simp only [Obj.cells.injEq] at this
    simp at this
    exact ⟨this.1, this.2.symm⟩
  have hlt : b < w1.heap.size := (Array.getElem?_eq_some_iff.1 hb).1
  have hne : v0.ownBlock ≠ some b := Lib.ownBlock_ne ho hb (by decide)
  have c0 : w1.cell? ⟨b, 0, none⟩ = some (.pointer (some ⟨b, 0, none⟩)) := by rw [Lib.cell_of_heap hb]; rfl
  have c1 : w1.cell? ⟨b, 1, none⟩ = some v0 := by rw [Lib.cell_of_heap hb]; rfl
  have HB := Lib.hid hB
  have HR := Lib.hid (And.intro h1 (And.intro h2 (And.intro h3 h4)))
  have HN := Lib.hid hne
  have HO := Lib.hid ho
  have HRR := Lib.hid hr
  have HP := Lib.hid hb
  clear h1 h2 h3 h4 h hp hb0 hne
  go_wp2_with (at_builtin; refine wp_fresh _ rfl _ _ (by rfl) B _ _ _ (by rfl) ho s (by rfl) (by unfold maxLen; omega) (by omega) (by omega) ?_; intro v' w2 hown' hgrow hfr; obtain ⟨ao, n', cap, rfl⟩ : ∃ ao n' cap, v' = .slice ao n' cap := slice_of hown'; have hb2 : w2.heap[b]? = some (.cells #[.pointer (some ⟨b, 0, none⟩), v0] 40 (0, 0)) := (hgrow.block b hlt (fun e => HN.out e.symm)).trans HP.out; have d1 : w2.cell? ⟨b, 1, none⟩ = some v0 := (by rw [Lib.cell_of_heap hb2]; rfl); have f1 : w2.frozen? ⟨b, 1, none⟩ = false := Lib.frozen_of_heap hb2 1)
  go_ret2
  have hne2 : (Value.slice ao n' cap).ownBlock ≠ some b := Lib.ownBlock_ne hown' hb2 (by decide)
  obtain ⟨h1, h2, h3, h4⟩ := HR.out
  have hb3 : (w2.setCell ⟨b, 1, none⟩ (.slice ao n' cap)).heap[b]? = some (.cells #[.pointer (some ⟨b, 0, none⟩), .slice ao n' cap] 40 (0, 0)) := by simp [World.setCell, Array.getElem?_modify, hb2]
  have hs2 := hgrow.size
  refine ⟨rfl, (Value.slice ao n' cap).ownBlock, ⟨HB.out, _, _, .inr rfl, hb3, ?_, rfl⟩, ?_, by simp; omega, ?_, ?_⟩
  · have := hown'.kept (w' := w2.setCell ⟨b, 1, none⟩ (.slice ao n' cap)) (row := some b) ⟨rfl, rfl, rfl, by simp [World.setCell], fun k _ hk => Below.heap_setCell _ _ _ _ (fun e => hk (by simp [e]))⟩ (.inr hne2)
    simpa [Lib.strCells_length] using this
  · rcases hfr with h | h | h
    · exact .inl h
    · rw [h, HRR.out]
      exact h1
    · exact .inr (.inr ⟨_, h, h2⟩)
  · exact (h3.grown hgrow (by have := h3.size; have := HO.out; omega) (fun k hk => (HO.out.lt k hk).1)).setCell (p := ⟨b, 1, none⟩) HB.out _
  · intro k hk1 hk2 hk3
    rw [Below.heap_setCell _ _ _ _ hk2, hgrow.block k (by omega) (fun e => ?_), h4 k hk1 hk2 hk3]
    rw [HRR.out] at e
    rcases h1 with h | h | ⟨j, h, hj⟩
    · rw [h] at e; cases e
    · exact hk3 (e.trans h)
    · rw [h] at e; cases e; omega

theorem freeze_other (w : World) (g n k : Nat) (h : k ≠ g) : (w.freeze ⟨g, 0, none⟩ n).heap[k]? = w.heap[k]? := by
  unfold World.freeze
  split
  · rfl
  · simp only [Array.getElem?_modify]
    rw [if_neg (fun e => h e.symm)]
theorem freeze_size (w : World) (g n : Nat) : (w.freeze ⟨g, 0, none⟩ n).heap.size = w.heap.size := by
  unfold World.freeze
  split
  · rfl
  · simp

set_option maxHeartbeats 1000000 in
set_option maxRecDepth 100000 in
/-- String of a builder that holds a byte: its own row alone is touched. -/
theorem String_two (B b : Nat) (r : Option Nat) (l : List UInt8) (w : World) (h : BT B b r (Lib.byteCells l) w) (h0 : l ≠ []) :
    Calls Tryd.prog 29 #[.pointer (some ⟨b, 0, none⟩)] w fun e w' => e = .returned (.string ⟨l.toArray⟩) ∧ Below B w w' ∧ w.heap.size ≤ w'.heap.size ∧ ∀ k, some k ≠ r → w'.heap[k]? = w.heap[k]? := by
  obtain ⟨hB, p, v, hp, hbk, hown, hr⟩ := h
  have hl0 : l.length ≠ 0 := by simpa using h0
  rw [Lib.byteCells_length] at hown
  obtain ⟨g, cap, cur, rfl, hbg, hg, hnc, hcm, hcs, htake⟩ : ∃ g cap cur, v = .slice (some ⟨g, 0, none⟩) l.length cap ∧ B ≤ g ∧ w.heap[g]? = some (.cells cur 5 (0, 0)) ∧ l.length ≤ cap ∧ cap ≤ maxLen ∧ cur.size = cap * 1 ∧ cur.toList.take (l.length * 1) = Lib.byteCells l := by
    rcases hown.2 with ⟨_, hz⟩ | ⟨g, cap, cur, hv, q⟩
    · exact absurd hz hl0
    · exact ⟨g, cap, cur, hv, q⟩
  have hrg : r = some g := hr.symm
  have c1 : w.drew.cell? ⟨b, 1, none⟩ = some (.slice (some ⟨g, 0, none⟩) l.length cap) := by
    have : w.drew.heap[b]? = some (.cells #[p, .slice (some ⟨g, 0, none⟩) l.length cap] 40 (0, 0)) := hbk
    rw [Lib.cell_of_heap this]; rfl
  have hSD : (Builtin.unsafeSliceData_ #[37] 71 #[.slice (some ⟨g, 0, none⟩) l.length cap]).run Tryd.prog w.drew = .ok (.pointer (some ⟨g, 0, none⟩)) w.drew :=
    Lib.run_unsafeSliceData_row _ _ _ _ _ _ (by omega)
  have hUS : (Builtin.unsafeString_ #[71, 3] 9 #[.pointer (some ⟨g, 0, none⟩), .int .i64 l.length]).run Tryd.prog w.drew = .ok (.string ⟨l.toArray⟩) (w.drew.freeze ⟨g, 0, none⟩ l.length) := by
    refine Lib.run_unsafeString_row w.drew 71 3 9 5 Tryd.lays169.t127 Tryd.Builder_Extra_169.cellsByte g cur.size (by have hg' : w.drew.heap[g]? = some (.cells cur 5 (0, 0)) := hg; simp [World.shape?, hg']) l h0 (by omega) (by unfold maxLen at hcm; omega) ?_
    intro j x hx
    have := hown.cells (g := g) rfl j (.int .u8 x.toNat) (by simp [Lib.byteCells, hx])
    exact this
  have HB := Lib.hid (And.intro hrg hbg)
  clear hown hg htake hcs hcm hnc hrg hr hp hbk
  go_enter Tryd.func29, Tryd.ntmps29
  go_wp2
  have mixed := Tryd.lays169.mixed
  go_region_o
  all_goals (go_wp2; go_ret; exact ⟨rfl, Lib.below_freeze (Below.drew (Below.refl B w)) (p := ⟨g, 0, none⟩) HB.out.2 _, by rw [freeze_size]; exact Nat.le_refl _, fun k hk => (freeze_other _ _ _ _ (fun e => hk (by rw [e, HB.out.1]))).trans rfl⟩)

theorem BT.lt {B b : Nat} {r : Option Nat} {bs : List Value} {w : World} (h : BT B b r bs w) : b < w.heap.size := by
  obtain ⟨_, p, v, _, hb, _⟩ := h
  exact (Array.getElem?_eq_some_iff.1 hb).1
theorem BT.row_lt {B b k : Nat} {r : Option Nat} {bs : List Value} {w : World} (h : BT B b r bs w) (hr : r = some k) : k < w.heap.size ∧ B ≤ k := by
  obtain ⟨_, p, v, _, hb, ho, h1⟩ := h
  have := ho.lt k (h1.trans hr)
  exact ⟨this.2, this.1⟩
/-- a builder's block is no row of bytes. -/
theorem BT.ne_row {B b b2 : Nat} {r r2 : Option Nat} {bs cs : List Value} {w : World} (h : BT B b r bs w) (h2 : BT B b2 r2 cs w) : r2 ≠ some b := by
  obtain ⟨_, p, v, _, hb, ho, h1⟩ := h
  obtain ⟨_, p2, v2, _, hb2, ho2, h12⟩ := h2
  rw [← h12]
  exact Lib.ownBlock_ne ho2 hb (by decide)
/-- a builder is as it was where its block and its row are. -/
theorem BT.keep {B b : Nat} {r : Option Nat} {bs : List Value} {w w' : World} (h : BT B b r bs w) (h1 : w'.heap[b]? = w.heap[b]?) (h2 : ∀ k, r = some k → w'.heap[k]? = w.heap[k]?) : BT B b r bs w' := by
  obtain ⟨hB, p, v, hp, hb, ho, hr⟩ := h
  refine ⟨hB, p, v, hp, h1.trans hb, ⟨ho.1, ?_⟩, hr⟩
  rcases ho.2 with h3 | ⟨g, cap, cur, hv, hg, hh, q⟩
  · exact .inl h3
  · exact .inr ⟨g, cap, cur, hv, hg, (h2 g (by rw [← hr, hv]; rfl)).trans hh, q⟩
/-- two builders side by side. -/
def Two (B b1 b2 : Nat) (xs ys : List Value) (w : World) : Prop := ∃ r1 r2, BT B b1 r1 xs w ∧ BT B b2 r2 ys w ∧ b1 ≠ b2 ∧ (r1 = none ∨ r1 ≠ r2)
theorem Two.swap {B b1 b2 : Nat} {xs ys : List Value} {w : World} (h : Two B b1 b2 xs ys w) : Two B b2 b1 ys xs w := by
  obtain ⟨r1, r2, h1, h2, h3, h4⟩ := h
  refine ⟨r2, r1, h2, h1, h3.symm, ?_⟩
  rcases h4 with h4 | h4
  · cases r2 with
    | none => exact .inl rfl
    | some k => exact .inr (by rw [h4]; simp)
  · exact .inr h4.symm
theorem Two.wrote {B b1 b2 : Nat} {xs ys zs : List Value} {w w' : World} {r1 r2 : Option Nat} (h1 : BT B b1 r1 xs w) (h2 : BT B b2 r2 ys w) (h3 : b1 ≠ b2) (h4 : r1 = none ∨ r1 ≠ r2) (hw : WroteR B b1 r1 zs w w') : Two B b1 b2 zs ys w' ∧ Below B w w' := by
  obtain ⟨r', g1, g2, g3, g4, g5⟩ := hw
  refine ⟨⟨r', r2, g1, h2.keep (g5 b2 h2.lt h3.symm (fun e => h2.ne_row h1 e.symm)) (fun k hk => ?_), h3, ?_⟩, g4⟩
  · have hkl := h2.row_lt hk
    refine g5 k hkl.1 (fun e => h1.ne_row h2 (by rw [hk, e])) (fun e => ?_)
    rcases h4 with h4 | h4
    · rw [h4] at e; cases e
    · exact h4 (e.symm.trans hk.symm)
  · rcases g2 with g2 | g2 | ⟨k, g2, hk⟩
    · exact .inl g2
    · rcases h4 with h4 | h4
      · exact .inl (g2.trans h4)
      · exact .inr (by rw [g2]; exact h4)
    · refine .inr (fun e => ?_)
      have := (h2.row_lt (e.symm.trans g2)).1
      omega
/-- a write to the first of two builders. -/
theorem Two.write (B b1 b2 : Nat) (xs ys : List Value) (s : ByteArray) (w : World) (h : Two B b1 b2 xs ys w) (hl : xs.length + s.size ≤ 4000000000) :
    Calls Tryd.prog 27 #[.pointer (some ⟨b1, 0, none⟩), .string s] w fun e w' => e = .returned (.tuple #[.int .i64 s.size, .nilIface]) ∧ Two B b1 b2 (xs ++ Lib.strCells s) ys w' ∧ Below B w w' := by
  obtain ⟨r1, r2, h1, h2, h3, h4⟩ := h
  refine (WriteString_two B b1 r1 xs s w h1 hl).mono ?_
  rintro e w' ⟨rfl, hw⟩
  exact ⟨rfl, Two.wrote h1 h2 h3 h4 hw⟩
/-- blocks below a bound that lies at or ahead of both builders' own. -/
theorem Two.below {B b1 b2 : Nat} {xs ys : List Value} {w w' : World} (h : Two B b1 b2 xs ys w) (hb : Below w.heap.size w w') : Two B b1 b2 xs ys w' := by
  obtain ⟨r1, r2, h1, h2, h3, h4⟩ := h
  exact ⟨r1, r2, h1.keep (hb.block _ h1.lt) (fun k hk => hb.block k (h1.row_lt hk).1), h2.keep (hb.block _ h2.lt) (fun k hk => hb.block k (h2.row_lt hk).1), h3, h4⟩
/-- the text of the first of two builders; the second is as it was. -/
theorem Two.text (B b1 b2 : Nat) (l : List UInt8) (ys : List Value) (w : World) (h : Two B b1 b2 (Lib.byteCells l) ys w) (h0 : l ≠ []) :
    Calls Tryd.prog 29 #[.pointer (some ⟨b1, 0, none⟩)] w fun e w' => e = .returned (.string ⟨l.toArray⟩) ∧ Below B w w' ∧ ∃ r2, BT B b2 r2 ys w' := by
  obtain ⟨r1, r2, h1, h2, h3, h4⟩ := h
  refine (String_two B b1 r1 l w h1 h0).mono ?_
  rintro e w' ⟨rfl, g1, g2, g3⟩
  refine ⟨rfl, g1, r2, h2.keep (g3 b2 (fun e => h2.ne_row h1 e.symm)) (fun k hk => g3 k (fun e => ?_))⟩
  rcases h4 with h4 | h4
  · rw [h4] at e; cases e
  · exact h4 (e.symm.trans hk.symm)
end Go.Proofs.YtmlfoffahfbalaaDoor
