/- Maps that a call makes, whose elements are any values, read as functions. -/
import Derived.Maps.Own
import Derived.Maps.OwnOps
import Derived.Maps.OwnSet
import Derived.Maps.Views
import Derived.Maps.RangeWalk
import Derived.Maps.Ext
import Derived.WalkKit
import Derived.Below
import Derived.RowKit
import Derived.Deep.Upon
import Derived.Test.YtnjiibiafhnmgaaGreatDoorYJ
import Derived.Test.YtnjiibiafhnmgaaGreatDoorYH
import Derived.DeepKeys4
import Derived.Laws.Rows
namespace Go.Proofs.YtnjiibiafhnmgaaGreatDoor
set_option linter.unusedVariables false
set_option linter.unusedSimpArgs false
open Go Go.RowKit Go.Maps

def RV (v : Value) : Option (DataW Value × List MemPlace) := some (.held v, [])
def MapF (P : Program) (k : TypeId) (W : World) (b n : Nat) (f : Lit → Option Value) : Prop :=
  ∃ D : DataW Value, W.ownsMap P k RV b n D ∧ Tidy D ∧ (∀ q, Maps.has D q = (f q).isSome) ∧ ∀ q z, D.atKey q z = match f q with | some v => .held v | none => z
variable {P : Program} {k : TypeId} {W : World} {b n : Nat} {f : Lit → Option Value}
theorem MapF.made (P : Program) (k : TypeId) (W : World) : MapF P k (W.alloc (.map #[] 0)) W.heap.size 0 (fun _ => none) := ⟨.map [], World.ownsMap_made W P k RV, tidy_empty, fun _ => rfl, fun _ _ => rfl⟩
theorem MapF.lt (h : MapF P k W b n f) : b < W.heap.size := by
  obtain ⟨D, h1, _⟩ := h
  exact h1.lt
theorem MapF.kept {W' : World} {row : Option Nat} (h : MapF P k W b n f) (hg : W.grownBy W' row) (hne : some b ≠ row) : MapF P k W' b n f := by
  obtain ⟨D, h1, h2⟩ := h
  exact ⟨D, h1.kept hg hne, h2⟩
theorem MapF.below {W' : World} (h : MapF P k W b n f) (hb : Below W.heap.size W W') : MapF P k W' b n f := h.kept (row := none) ⟨hb.os, hb.tape, hb.output, hb.size, fun i hi _ => hb.block i hi⟩ (by simp)
theorem MapF.alloc (h : MapF P k W b n f) (o : Obj) : MapF P k (W.alloc o) b n f := by
  obtain ⟨D, h1, h2⟩ := h
  exact ⟨D, h1.alloc o, h2⟩
theorem MapF.setCell (h : MapF P k W b n f) {a : Addr} (ha : b ≠ a.block) (u : Value) : MapF P k (W.setCell a u) b n f := by
  obtain ⟨D, h1, h2⟩ := h
  exact ⟨D, h1.setCell ha u, h2⟩
open Classical in
noncomputable def putF (f : Lit → Option Value) (kl : Lit) (v : Value) : Lit → Option Value := fun q => if q = kl then some v else f q
theorem putF_same (f : Lit → Option Value) (kl : Lit) (v : Value) : putF f kl v kl = some v := by unfold putF; exact if_pos rfl
theorem putF_other (f : Lit → Option Value) {kl q : Lit} (v : Value) (h : q ≠ kl) : putF f kl v q = f q := by unfold putF; exact if_neg h
theorem wpList_put_F {ops : Array Oper} {rest : List Oper} {o : Oper} {a : Act} {Q : Exit → Act → World → Prop}
    (hg : o.guard = none) (m x v : Operand) (t : TypeId) (hop : o.op = Op.mapUpdate t m x v)
    (k e : TypeId) (K : Keyed P k) (ht : P.underlying t = some (.map k e)) (b n : Nat) (f : Lit → Option Value)
    (hm : a.eval m = .map (some b)) (hown : MapF P k W b n f) (hn : n < maxLen) (key val : Value) (kl : Lit) (hx : a.eval x = key) (hv : a.eval v = val) (hkey : keyOf P k key = some kl)
    (hK : ∀ W', MapF P k W' b (n + 1) (putF f kl val) → W.grownBy W' (some b) → wpList P ops Q rest (a.put o.dst undef) W') :
    wpList P ops Q (o :: rest) a W := by
  obtain ⟨D, h1, h2, h3, h4⟩ := hown
  have hkl := K.key hkey
  refine wpList_mapUpdate_own W hg m x v t hop k e K ht RV b n D hm h1 hn key val kl hx hv hkey (.held val) [] rfl fun W' g1 g2 => hK W' ⟨_, g1, h2.put hkl _, fun q => ?_, fun q z => ?_⟩ g2
  · by_cases hq : q = kl
    · subst hq
      rw [has_put_same h2.isMap hkl, putF_same]
      rfl
    · rw [has_put_other hq, h3, putF_other f val hq]
  · by_cases hq : q = kl
    · subst hq
      rw [atKey_put_same h2.isMap hkl, putF_same]
    · rw [atKey_put_other hq, h4, putF_other f val hq]
theorem wpList_look_F {ops : Array Oper} {rest : List Oper} {o : Oper} {a : Act} {Q : Exit → Act → World → Prop}
    (hg : o.guard = none) (m x : Operand) (t : TypeId) (hop : o.op = Op.lookup t m x false)
    (k e : TypeId) (K : Keyed P k) (ht : P.underlying t = some (.map k e)) {z : Value} (hz : (zeroValue e).run P W = .ok z W) (b n : Nat) (f : Lit → Option Value)
    (hm : a.eval m = .map (some b)) (hown : MapF P k W b n f) (key : Value) (kl : Lit) (hx : a.eval x = key) (hkey : keyOf P k key = some kl)
    (hK : wpList P ops Q rest (a.put o.dst ((f kl).getD z)) W) : wpList P ops Q (o :: rest) a W := by
  obtain ⟨D, h1, h2, h3, h4⟩ := hown
  refine wpList_plain hg fun K' hK' => ?_
  obtain ⟨v, ps, hrun, hv⟩ := h1.lookup K ht hz (zd := .held z) (zp := []) rfl hkey
  rw [h4] at hv
  have e : v = (f kl).getD z := by
    unfold RV at hv
    cases hf : f kl with
    | none => rw [hf] at hv; injection hv with hv; injection hv with hv _; injection hv
    | some u => rw [hf] at hv; injection hv with hv; injection hv with hv _; injection hv
  subst e
  unfold Oper.wp
  simp [execOp, hop, hm, hx, hrun, Result.andThen]
  exact hK' _ _ hK
theorem wpList_look_ok_F {ops : Array Oper} {rest : List Oper} {o : Oper} {a : Act} {Q : Exit → Act → World → Prop}
    (hg : o.guard = none) (m x : Operand) (t : TypeId) (hop : o.op = Op.lookup t m x true)
    (k e : TypeId) (K : Keyed P k) (ht : P.underlying t = some (.map k e)) {z : Value} (hz : (zeroValue e).run P W = .ok z W) (b n : Nat) (f : Lit → Option Value)
    (hm : a.eval m = .map (some b)) (hown : MapF P k W b n f) (key : Value) (kl : Lit) (hx : a.eval x = key) (hkey : keyOf P k key = some kl)
    (hK : wpList P ops Q rest (a.put o.dst (.tuple #[(f kl).getD z, .bool (f kl).isSome])) W) : wpList P ops Q (o :: rest) a W := by
  obtain ⟨D, h1, h2, h3, h4⟩ := hown
  refine wpList_lookup_own_ok W hg m x t hop k e K ht RV hz (.held z) [] rfl b n D hm h1 key kl hx hkey fun v ps hv => ?_
  rw [h4] at hv
  have e : v = (f kl).getD z := by
    unfold RV at hv
    cases hf : f kl with
    | none => rw [hf] at hv; injection hv with hv; injection hv with hv _; injection hv
    | some u => rw [hf] at hv; injection hv with hv; injection hv with hv _; injection hv
  subst e
  rw [h3]
  exact hK
end Go.Proofs.YtnjiibiafhnmgaaGreatDoor

namespace Go.Proofs.YtnjiibiafhnmgaaGreatDoor
set_option linter.unusedVariables false
set_option linter.unusedSimpArgs false
open Go Go.RowKit

def segK : Value → Option Nat
  | .slice (some a) _ (_ + 1) => some a.block
  | _ => none
structure SegC (W : World) (B c : Nat) (v : Value) (n : Nat) (xs : List Value) : Prop where
  len : xs.length = n * c
  val : (∃ ao, v = .slice ao 0 0 ∧ n = 0) ∨ ∃ g off cap, v = .slice (some ⟨g, off, none⟩) n (cap + 1) ∧ n ≤ cap + 1 ∧ cap + 1 ≤ maxLen ∧ B ≤ g ∧ g < W.heap.size ∧ (∀ j, j < n * c → W.cell? ⟨g, off + j, none⟩ = xs[j]?) ∧
    ∀ j, j < (cap + 1) * c → (W.cell? ⟨g, off + j, none⟩).isSome = true ∧ W.frozen? ⟨g, off + j, none⟩ = false
theorem SegC.nil (W : World) (B c : Nat) (ao : Option Addr) : SegC W B c (.slice ao 0 0) 0 [] := ⟨by simp, .inl ⟨ao, rfl, rfl⟩⟩
theorem SegC.lt {W : World} {B c n : Nat} {v : Value} {xs : List Value} (h : SegC W B c v n xs) : ∀ k, segK v = some k → B ≤ k ∧ k < W.heap.size := by
  intro k hk
  rcases h.val with ⟨ao, rfl, _⟩ | ⟨g, off, cap, rfl, _, _, hb, hg, _⟩
  · cases ao <;> simp [segK] at hk
  · simp [segK] at hk; subst hk; exact ⟨hb, hg⟩
theorem SegC.far {W W' : World} {B c n : Nat} {v : Value} {xs : List Value} (h : SegC W B c v n xs) (hs : W.heap.size ≤ W'.heap.size) (hk : ∀ k, segK v = some k → W'.heap[k]? = W.heap[k]?) : SegC W' B c v n xs := by
  refine ⟨h.len, h.val.imp id fun ⟨g, off, cap, hv, h1, h2, h3, h4, h5, h6⟩ => ?_⟩
  have e := hk g (by rw [hv]; rfl)
  exact ⟨g, off, cap, hv, h1, h2, h3, by omega, fun j hj => (World.cell?_of_block (a := ⟨g, off + j, none⟩) e).trans (h5 j hj), fun j hj => ⟨by rw [World.cell?_of_block (a := ⟨g, off + j, none⟩) e]; exact (h6 j hj).1, (World.frozen?_of_block (a := ⟨g, off + j, none⟩) e).trans (h6 j hj).2⟩⟩
theorem tape_setCells (w : World) (g o : Nat) (vs : List Value) : (w.setCells g o vs).tape = w.tape := by
  induction vs generalizing w o with
  | nil => rfl
  | cons v vs ih => simp only [World.setCells]; rw [ih]; rfl
theorem run_append_segC {P : Program} (w : World) (t tx ty e : TypeId) (i : TypeInfo) (z : Value) (bytes c : Nat) (ht : P.underlying t = some (.slice e)) (hi : P.info? e = some i) (hz : i.zero = some z) (hsize : i.size = c) (hby : i.bytes = bytes) (hzs : z.cells.size = c)
    (B : Nat) (v : Value) (n : Nat) (xs : List Value) (h : SegC w B c v n xs) (hB : B ≤ w.heap.size) (x : Value) (m : Nat) (news : List Value) (hs : Src P c tx x m news w) (h63 : n + m ≤ maxLen) (hbytes : (n + m) * bytes ≤ 140737488355328) :
    ∃ v' w', (Builtin.append_ #[t, tx] ty #[v, x]).run P w = .ok v' w' ∧ SegC w' B c v' (n + m) (xs ++ news) ∧ w.grownBy w' (segK v) ∧ (segK v' = segK v ∨ ∀ k, segK v' = some k → w.heap.size ≤ k) := by
  subst hsize
  subst hby
  have hl := h.len
  have hnl := hs.newsLen
  have hlen' : (xs ++ news).length = (n + m) * i.size := by rw [List.length_append, hl, hnl, Nat.add_mul]
  have grow : ∀ (bs : Option Addr) (sc : Nat), v = .slice bs n sc → sc < n + m →
      (Builtin.firstCells i.size n (.slice bs n sc)).run P w.drew = .ok xs.toArray w.drew →
      ∃ v' w', (Builtin.append_ #[t, tx] ty #[v, x]).run P w = .ok v' w' ∧ SegC w' B i.size v' (n + m) (xs ++ news) ∧ w.grownBy w' (segK v) ∧ (segK v' = segK v ∨ ∀ k, segK v' = some k → w.heap.size ≤ k) := by
    rintro bs sc rfl hg hold
    have hrun := run_append_grow_src (P := P) w t tx ty e i z ht hi hz bs n sc xs hold x m news hs hg (by simp only [maxLen] at h63; omega) (growslice_fits hg hbytes)
    have hge := grownCap_ge w (n + m) sc e
    have hcm := grownCap_le_maxLen w (n + m) sc e h63
    obtain ⟨K, hK⟩ : ∃ K, grownCap w (n + m) sc e = K + 1 := ⟨grownCap w (n + m) sc e - 1, by omega⟩
    rw [hK] at hrun hge hcm
    have hsz : ((xs ++ news).toArray ++ Builtin.zeroCells z.cells (K + 1 - (n + m))).size = (K + 1) * i.size := by
      rw [Array.size_append, List.size_toArray, hlen', size_zeroCells, hzs, ← Nat.add_mul]
      congr 1
      omega
    refine ⟨_, _, hrun, ⟨hlen', .inr ⟨w.heap.size, 0, K, rfl, hge, hcm, hB, by simp, fun j hj => ?_, fun j hj => ?_⟩⟩, ⟨rfl, rfl, rfl, by simp, fun k hk _ => Below.heap_alloc w.drew _ k hk⟩, .inr fun k hk => by simp [segK] at hk; omega⟩
    · have e1 : (w.drew.alloc (.cells ((xs ++ news).toArray ++ Builtin.zeroCells z.cells (K + 1 - (n + m))) e)).cell? ⟨w.heap.size, 0 + j, none⟩ = _ := World.cell?_alloc_new w.drew _ _ _
      rw [e1, Array.getElem?_append_left (by simp only [List.size_toArray]; rw [hlen']; omega), List.getElem?_toArray, Nat.zero_add]
    · have e1 : (w.drew.alloc (.cells ((xs ++ news).toArray ++ Builtin.zeroCells z.cells (K + 1 - (n + m))) e)).cell? ⟨w.heap.size, 0 + j, none⟩ = _ := World.cell?_alloc_new w.drew _ _ _
      exact ⟨by rw [e1, Array.getElem?_eq_getElem (by rw [hsz]; omega)]; rfl, World.frozen?_alloc_new w.drew _ _ _⟩
  rcases h.val with ⟨ao, rfl, rfl⟩ | ⟨g, off, cap, rfl, h1, h2, h3, h4, h5, h6⟩
  · obtain rfl : xs = [] := List.eq_nil_of_length_eq_zero (by simpa using hl)
    rcases Nat.eq_zero_or_pos m with h0 | h0
    · subst h0
      obtain rfl : news = [] := List.eq_nil_of_length_eq_zero (by simpa using hnl)
      exact ⟨_, _, run_append_nothing (P := P) w t tx ty e i ht hi ao 0 0 (Nat.le_refl _) x hs, h, ⟨rfl, rfl, rfl, Nat.le_refl _, fun _ _ _ => rfl⟩, .inl rfl⟩
    · refine grow ao 0 rfl (by omega) ?_
      cases ao with
      | none => exact run_firstCells_none w.drew i.size 0 0 0
      | some a' => exact run_firstCells_some w.drew i.size 0 a' 0 0 [] (by simp) (by intro _ _ h'; simp at h')
  · by_cases hfit : n + m ≤ cap + 1
    · have hrc : (n + m) * i.size ≤ (cap + 1) * i.size := Nat.mul_le_mul_right _ hfit
      rw [Nat.add_mul] at hrc
      have hsome : ∀ j, j < news.length → (w.cell? ⟨g, off + n * i.size + j, none⟩).isSome = true := fun j hj => by rw [Nat.add_assoc]; exact (h6 _ (by omega)).1
      have hrun := run_append_room_src (P := P) w t tx ty e i ht hi g off n (cap + 1) x m news hs hfit hsome (fun j hj => by rw [Nat.add_assoc]; exact (h6 _ (by omega)).2)
      have hk := World.keptBut_setCells g (may := fun _ => True) news (off + n * i.size) w (fun _ _ => trivial)
      refine ⟨_, _, hrun, ⟨hlen', .inr ⟨g, off, cap, rfl, hfit, h2, h3, Nat.lt_of_lt_of_le h4 hk.size, fun j hj => ?_, fun j hj => ⟨?_, (World.frozen?_setCells g _ _ _ _).trans (h6 j hj).2⟩⟩⟩,
        ⟨World.os_setCells _ _ _ _, tape_setCells _ _ _ _, World.output_setCells _ _ _ _, hk.size, fun k hk hne => World.heap_setCells_other w g _ news hk (fun e => hne (by simp [segK, e]))⟩, .inl rfl⟩
      · rw [Nat.add_mul] at hj
        by_cases hjo : j < n * i.size
        · rw [World.cell?_setCells_out g _ _ _ _ (fun _ _ => Or.inl (by show off + j < off + n * i.size; omega)), List.getElem?_append_left (by omega)]
          exact h5 j hjo
        · have ht' : j - n * i.size < news.length := by omega
          have := World.cell?_setCells_in g news (off + n * i.size) w hsome (j - n * i.size) ht'
          rw [show off + n * i.size + (j - n * i.size) = off + j by omega] at this
          rw [this, List.getElem?_append_right (by omega), hl, List.getElem?_eq_getElem ht']
      · by_cases hin : n * i.size ≤ j ∧ j < n * i.size + news.length
        · have := World.cell?_setCells_in g news (off + n * i.size) w hsome (j - n * i.size) (by omega)
          rw [show off + n * i.size + (j - n * i.size) = off + j by omega] at this
          rw [this]; rfl
        · rw [World.cell?_setCells_out g _ _ _ _ (fun _ _ => by show off + j < off + n * i.size ∨ off + n * i.size + news.length ≤ off + j; omega)]
          exact (h6 j hj).1
    · refine grow (some ⟨g, off, none⟩) (cap + 1) rfl (by omega) ?_
      refine run_firstCells_some w.drew i.size n ⟨g, off, none⟩ n (cap + 1) xs hl (fun j u hu => ?_)
      rw [Addr.add_lit]
      have hj : j < n * i.size := by rw [← hl]; exact (List.getElem?_eq_some_iff.1 hu).1
      exact (h5 j hj).trans hu
end Go.Proofs.YtnjiibiafhnmgaaGreatDoor

namespace Go.Proofs.YtnjiibiafhnmgaaGreatDoor
set_option linter.unusedVariables false
set_option linter.unusedSimpArgs false
open Go Go.RowKit Go.Maps

theorem laidOutM : laidOutB Tryz.prog = true := by kernel_rfl
set_option maxRecDepth 100000 in
theorem rowSel : (53 : TypeId) < Tryz.prog.types.size := of_decide_eq_true (by kernel_rfl)
theorem wideSel : (match Tryz.prog.underlying 53 with | some (.array _ _) | some (.struct _) => true | _ => false) = true := by rw [Tryz.underlying53]
set_option maxRecDepth 100000 in
theorem lawSel : Keyed Tryz.prog 53 := Keyed.of_law (deep_law_laid laidOutM (m := 3) (by omega) rowSel (by kernel_rfl) wideSel)
def IntOk (a : Int) : Prop := -9223372036854775808 ≤ a ∧ a ≤ 9223372036854775807
structure SelBd (y : SelL) : Prop where
  path : y.1.size ≤ maxLen
  v1 : IntOk y.2.1
  v2 : IntOk y.2.2.1
  v3 : IntOk y.2.2.2
theorem wfI64 {a : Int} (h : IntOk a) : (Lit.int .i64 a).wf = true := by
  unfold IntOk at h
  simp [Lit.wf, IntKind.min, IntKind.max, IntKind.signed, IntKind.bits]
  omega
set_option maxRecDepth 100000 in
theorem key_sel (y : SelL) (h : SelBd y) : ∃ l, keyOf Tryz.prog 53 (Value.agg #[.string y.1, intC y.2.1, intC y.2.2.1, intC y.2.2.2]) = some l := by
  unfold keyOf
  have hf : (Value.agg #[.string y.1, intC y.2.1, intC y.2.2.1, intC y.2.2.2]).formed Tryz.prog 53 = true := by simp [Value.formed, Tryz.underlying53]; kernel_rfl
  have hkt : Tryz.prog.keyType 53 = true := by kernel_rfl
  simp only [Tryz.underlying53, hf, hkt, Bool.and_true, if_true]
  have : ∃ ls, Tryz.prog.keyLits (Tryz.prog.types.size + 1) 53 (Value.agg #[.string y.1, intC y.2.1, intC y.2.2.1, intC y.2.2.2]).cells.toList = some ls := by
    have h2 : 3 ≤ Tryz.prog.types.size := of_decide_eq_true (by kernel_rfl)
    obtain ⟨n, hn⟩ : ∃ n, Tryz.prog.types.size + 1 = n + 4 := ⟨Tryz.prog.types.size - 3, by omega⟩
    rw [hn]
    have c9 : Tryz.prog.cellsOf 9 = 1 := by kernel_rfl
    have c3 : Tryz.prog.cellsOf 3 = 1 := by kernel_rfl
    have c41 : Tryz.prog.cellsOf 51 = 3 := by kernel_rfl
    have c43 : Tryz.prog.cellsOf 53 = 4 := by kernel_rfl
    simp [Program.keyLits, Tryz.underlying53, Tryz.underlying51, Tryz.underlying9, Tryz.underlying3, c9, c3, c41, c43, Value.cells, wfI64 h.v1, wfI64 h.v2, wfI64 h.v3, h.path]
    rw [if_pos (by
      intro i hi
      obtain rfl | rfl | rfl : i = 0 ∨ i = 1 ∨ i = 2 := by omega
      all_goals simp)]
    exact ⟨_, rfl⟩
  obtain ⟨ls, hls⟩ := this
  rw [hls]
  exact ⟨_, rfl⟩
theorem selC_inj {a b : SelL} (h : (Value.agg (selC a).toArray) = .agg (selC b).toArray) : a = b := by
  injection h with h
  have h := congrArg Array.toList h
  simp [selC] at h
  exact Prod.ext h.1 (Prod.ext h.2.1 (Prod.ext h.2.2.1 h.2.2.2))
noncomputable def keyS (y : SelL) : Lit := (keyOf Tryz.prog 53 (.agg (selC y).toArray)).getD (.bool false)
theorem keyS_of {y : SelL} (h : SelBd y) : keyOf Tryz.prog 53 (.agg (selC y).toArray) = some (keyS y) := by
  obtain ⟨l, hl⟩ := key_sel y h
  have hl : keyOf Tryz.prog 53 (.agg (selC y).toArray) = some l := hl
  unfold keyS
  rw [hl]
  rfl
theorem keyS_inj {a b : SelL} (ha : SelBd a) (hb : SelBd b) (h : keyS a = keyS b) : a = b := by
  have h1 := keyS_of ha
  have h2 := keyS_of hb
  rw [← h] at h2
  exact selC_inj (lawSel.inj h1 h2)
def lookK (X : List RelL) (k : Nat) (y : SelL) : Option Nat := (List.range k).find? fun i => decide (keyL (X.getD i default) = y)
theorem lookK_succ {X : List RelL} (hX : IdxOk X) {k : Nat} (hk : k < X.length) (y : SelL) : lookK X (k + 1) y = if keyL (X.getD k default) = y then some k else lookK X k y := by
  unfold lookK
  rw [List.range_succ, List.find?_append]
  by_cases h : keyL (X.getD k default) = y
  · rw [if_pos h]
    have : (List.range k).find? (fun i => decide (keyL (X.getD i default) = y)) = none := List.find?_eq_none.2 fun i hi => by
      intro e
      have e := of_decide_eq_true e
      have hi := List.mem_range.1 hi
      have := hX.inj (by omega) hk (e.trans h.symm)
      omega
    have h2 : [k].find? (fun i => decide (keyL (X.getD i default) = y)) = some k := by rw [List.find?_cons_of_pos (by simpa only [decide_eq_true_eq] using h)]
    rw [this, h2]
    rfl
  · rw [if_neg h]
    have : [k].find? (fun i => decide (keyL (X.getD i default) = y)) = none := by rw [List.find?_cons_of_neg (by simpa only [decide_eq_true_eq] using h)]; rfl
    rw [this, Option.or_none]
theorem lookK_some {X : List RelL} {y : SelL} {i : Nat} (h : lookK X X.length y = some i) : i < X.length ∧ keyL (X.getD i default) = y := by
  unfold lookK at h
  have h1 := List.find?_some h
  have h2 := List.mem_of_find?_eq_some h
  exact ⟨List.mem_range.1 h2, of_decide_eq_true h1⟩
theorem lookK_find {X : List RelL} (hX : IdxOk X) (y : SelL) : findR X y = (lookK X X.length y).map fun i => X.getD i default := by
  cases h : lookK X X.length y with
  | some i =>
    obtain ⟨hi, e⟩ := lookK_some h
    rw [← e, findR_at hX hi]
    rfl
  | none =>
    cases hf : findR X y with
    | none => rfl
    | some r =>
      obtain ⟨i, hi, e0, e⟩ := findR_some hf
      unfold lookK at h
      have := List.find?_eq_none.1 h i (List.mem_range.2 hi)
      exfalso
      apply this
      rw [e0]
      exact decide_eq_true e
def TabF (X : List RelL) (rv : Nat → Value) (k : Nat) (f : Lit → Option Value) : Prop := ∀ y, SelBd y → f (keyS y) = (lookK X k y).map fun i => .agg (relC (X.getD i default) (rv i))
theorem TabF.start (X : List RelL) (rv : Nat → Value) : TabF X rv 0 (fun _ => none) := fun _ _ => rfl
theorem TabF.step {X : List RelL} {rv : Nat → Value} {k : Nat} {f : Lit → Option Value} (h : TabF X rv k f) (hX : IdxOk X) (hk : k < X.length) (hb : SelBd (keyL (X.getD k default))) :
    TabF X rv (k + 1) (putF f (keyS (keyL (X.getD k default))) (.agg (relC (X.getD k default) (rv k)))) := fun y hy => by
  rw [lookK_succ hX hk]
  by_cases e : keyL (X.getD k default) = y
  · subst e
    rw [putF_same, if_pos rfl]
    rfl
  · rw [putF_other _ _ (fun e2 => e (keyS_inj hb hy e2.symm)), if_neg e]
    exact h y hy
structure PathsI (W : World) (B c k : Nat) (f : Lit → Option Value) : Prop where
  seg : ∀ q v, f q = some v → ∃ n xs, SegC W B c v n xs ∧ n ≤ k
  inj : ∀ q1 q2 v1 v2 g, f q1 = some v1 → f q2 = some v2 → segK v1 = some g → segK v2 = some g → q1 = q2
theorem PathsI.start (W : World) (B c : Nat) : PathsI W B c 0 (fun _ => none) := ⟨fun _ _ h => (by cases h), fun _ _ _ _ _ h => (by cases h)⟩
theorem PathsI.far {W W' : World} {B c k : Nat} {f : Lit → Option Value} (h : PathsI W B c k f) (hs : W.heap.size ≤ W'.heap.size) (hk : ∀ g, B ≤ g → g < W.heap.size → W'.heap[g]? = W.heap[g]?) : PathsI W' B c k f :=
  ⟨fun q v hv => by
    obtain ⟨n, xs, h1, h2⟩ := h.seg q v hv
    exact ⟨n, xs, h1.far hs fun g hg => hk g (h1.lt g hg).1 (h1.lt g hg).2, h2⟩, h.inj⟩
theorem PathsI.below {W W' : World} {B c k : Nat} {f : Lit → Option Value} (h : PathsI W B c k f) (hb : RowKit.Below W.heap.size W W') : PathsI W' B c k f := h.far hb.size fun g _ hg => hb.block g hg
theorem PathsI.get {W : World} {B c k : Nat} {f : Lit → Option Value} (h : PathsI W B c k f) (q : Lit) : ∃ n xs, SegC W B c ((f q).getD (.slice none 0 0)) n xs ∧ n ≤ k := by
  cases e : f q with
  | some v => exact h.seg q v e
  | none => exact ⟨0, [], SegC.nil W B c none, Nat.zero_le _⟩
theorem PathsI.put {W W' : World} {B c k n : Nat} {f : Lit → Option Value} {q : Lit} {v' : Value} {xs : List Value} (h : PathsI W B c k f) (hs : SegC W' B c v' (n + 1) xs) (hn : n ≤ k) (hg : W.grownBy W' (segK ((f q).getD (.slice none 0 0))))
    (hb : segK v' = segK ((f q).getD (.slice none 0 0)) ∨ ∀ g, segK v' = some g → W.heap.size ≤ g) : PathsI W' B c (k + 1) (putF f q v') := by
  have old : ∀ g, segK ((f q).getD (.slice none 0 0)) = some g → ∃ v, f q = some v ∧ segK v = some g := fun g h => by
    cases e : f q with
    | some v => rw [e] at h; exact ⟨v, rfl, h⟩
    | none => rw [e] at h; simp [segK] at h
  have lt : ∀ q2 v2 g, f q2 = some v2 → segK v2 = some g → g < W.heap.size := fun q2 v2 g h1 h2 => by
    obtain ⟨m, ys, h3, _⟩ := h.seg q2 v2 h1
    exact (h3.lt g h2).2
  refine ⟨fun q2 v2 h2 => ?_, fun q1 q2 v1 v2 g h1 h2 g1 g2 => ?_⟩
  · by_cases e : q2 = q
    · subst e
      rw [putF_same] at h2
      cases h2
      exact ⟨n + 1, xs, hs, by omega⟩
    · rw [putF_other f v' e] at h2
      obtain ⟨m, ys, h3, h4⟩ := h.seg q2 v2 h2
      refine ⟨m, ys, h3.far hg.size fun g hgb => hg.block g (h3.lt g hgb).2 fun e2 => ?_, by omega⟩
      obtain ⟨v, hv, hvb⟩ := old g e2.symm
      exact e (h.inj q2 q v2 v g h2 hv hgb hvb)
  · by_cases e1 : q1 = q
    · by_cases e2 : q2 = q
      · rw [e1, e2]
      · subst e1
        rw [putF_same] at h1
        cases h1
        rw [putF_other f _ e2] at h2
        rcases hb with hb | hb
        · rw [hb] at g1
          obtain ⟨v, hv, hvb⟩ := old g g1
          exact h.inj q1 q2 v v2 g hv h2 hvb g2
        · have := hb g g1
          have := lt q2 v2 g h2 g2
          omega
    · rw [putF_other f _ e1] at h1
      by_cases e2 : q2 = q
      · subst e2
        rw [putF_same] at h2
        cases h2
        rcases hb with hb | hb
        · rw [hb] at g2
          obtain ⟨v, hv, hvb⟩ := old g g2
          exact h.inj q1 q2 v1 v g h1 hv g1 hvb
        · have := hb g g2
          have := lt q1 v1 g h1 g1
          omega
      · rw [putF_other f _ e2] at h2
        exact h.inj q1 q2 v1 v2 g h1 h2 g1 g2
def TabOf (W : World) (B m : Nat) (X : List RelL) : Prop := ∃ (f : Lit → Option Value) (rv : Nat → Value) (n : Nat), MapF Tryz.prog 53 W m n f ∧ TabF X rv X.length f ∧ ∀ i, i < X.length → ReqsOf B (rv i) (X.getD i default).reqs W
theorem TabOf.below {W W' : World} {B m : Nat} {X : List RelL} (h : TabOf W B m X) (hb : RowKit.Below W.heap.size W W') (hB : B ≤ W.heap.size) : TabOf W' B m X := by
  obtain ⟨f, rv, n, h1, h2, h3⟩ := h
  exact ⟨f, rv, n, h1.below hb, h2, fun i hi => (h3 i hi).below hb hB⟩
theorem results_cell_tmp {P : Program} {fn : Func} {p q : Tmp} {ty : TypeId} (h : fn.results = #[.cell p ty, .tmp q]) (tmps : Array Value) (w : World) (g : Nat) (t : TypeId) (cs : Array Value) (fr : Nat × Nat) (d : TypeDesc)
    (hp : tmps.getD p undef = .pointer (some ⟨g, 0, none⟩)) (hg : w.heap[g]? = some (.cells cs t fr))
    (hu : P.underlying ty = some d) (hd : (match d with | .struct _ | .array _ _ => true | _ => false) = true) (hi : (P.info? ty).map (·.size) = some cs.size) :
    (results fn tmps).run P w = .ok (.tuple #[.agg cs, tmps.getD q undef]) w := by
  have hp' : tmps[p]?.getD undef = .pointer (some ⟨g, 0, none⟩) := by simpa using hp
  simp [results, h, hp', asAddr, run_loadVar_row w g t ty cs fr d hg hu hd hi]
theorem setTwo (W : World) (g : Nat) (x y : Value) (t : TypeId) (x' y' : Value) (h : W.heap[g]? = some (.cells #[x, y] t (0, 0))) : ((W.setCell ⟨g, 0, none⟩ x').setCell ⟨g, 1, none⟩ y').heap[g]? = some (.cells #[x', y'] t (0, 0)) := by
  have h1 := heap_setCell_same W g 0 #[x, y] t x' h
  exact heap_setCell_same _ g 1 _ t y' h1
theorem step_append_segC {P : Program} {w : World} {ops : Array Oper} {o : Oper} {a : Act} {K : Act → World → Prop} {Q : Exit → Act → World → Prop} {E : Prop}
    (hgd : o.guard = none) (s x : Operand) (t tx : TypeId) (hop : o.op = Op.call { callee := Callee.builtin Builtin.append, args := #[s, x], argTypes := #[t, tx] })
    (e : TypeId) (i : TypeInfo) (z : Value) (bytes c : Nat) (ht : P.underlying t = some (.slice e)) (hi : P.info? e = some i) (hz : i.zero = some z) (hsize : i.size = c) (hby : i.bytes = bytes) (hzs : z.cells.size = c)
    (B : Nat) (v : Value) (n : Nat) (xs : List Value) (hv : a.eval s = v) (h : SegC w B c v n xs) (hB : B ≤ w.heap.size) (m : Nat) (news : List Value) (hs : Src P c tx (a.eval x) m news w) (h63 : n + m ≤ maxLen) (hbytes : (n + m) * bytes ≤ 140737488355328)
    (hK : ∀ v' w', SegC w' B c v' (n + m) (xs ++ news) → w.grownBy w' (segK v) → (segK v' = segK v ∨ ∀ k, segK v' = some k → w.heap.size ≤ k) → K (a.put o.dst v') w') :
    if Region.wanted o (yielded ops a.tmps) = true then Oper.wp P o a w K Q else E := by
  have hw : Region.wanted o (yielded ops a.tmps) = true := by simp [Region.wanted, hgd]
  rw [if_pos hw]
  obtain ⟨v', w', hrun, r1, r2, r3⟩ := run_append_segC (P := P) w t tx o.type e i z bytes c ht hi hz hsize hby hzs B v n xs h hB (a.eval x) m news hs h63 hbytes
  unfold Oper.wp
  simp [execOp, hop, resolve, invoke, builtin, hv, hrun, Result.andThen]
  exact hK v' w' r1 r2 r3
theorem yields_look_F {P : Program} {S : World → Prop} {ops : Array Oper} {o : Oper} {a : Act} (hg : o.guard = none) (m x : Operand) (t : TypeId) (hop : o.op = Op.lookup t m x false)
    (k e : TypeId) (K : Keyed P k) (ht : P.underlying t = some (.map k e)) {z : Value} (hz : ∀ W, (zeroValue e).run P W = .ok z W) (b n : Nat) (f : Lit → Option Value)
    (hm : a.eval m = .map (some b)) (hown : ∀ W, S W → MapF P k W b n f) (key : Value) (kl : Lit) (hx : a.eval x = key) (hkey : keyOf P k key = some kl) : YieldsIf P ops S o ((f kl).getD z) a := by
  refine .inl ⟨by simp [Region.wanted, hg], fun W hW => ?_⟩
  obtain ⟨D, h1, h2, h3, h4⟩ := hown W hW
  obtain ⟨v, ps, hrun, hv⟩ := h1.lookup K ht (hz W) (zd := .held z) (zp := []) rfl hkey
  rw [h4] at hv
  have e : v = (f kl).getD z := by
    unfold RV at hv
    cases hf : f kl with
    | none => rw [hf] at hv; injection hv with hv; injection hv with hv _; injection hv
    | some u => rw [hf] at hv; injection hv with hv; injection hv with hv _; injection hv
  subst e
  simp [execOp, hop, hm, hx, hrun, Result.andThen]
theorem lawStr : Keyed Tryz.prog 9 := string_keyed Tryz.underlying9
theorem keyStr {p : ByteArray} (h : p.size ≤ maxLen) : keyOf Tryz.prog 9 (.string p) = some (.string p.data.toList) := Go.WideMaps.keyOf_string_mk Tryz.underlying9 h
theorem info_rels : (Tryz.prog.info? 69).map (fun i => (i.zero, i.size, i.bytes)) = some (some (.agg #[.string ⟨#[]⟩, .int .i64 0, .int .i64 0, .int .i64 0, .slice none 0 0, .string ⟨#[]⟩, .string ⟨#[]⟩, .string ⟨#[]⟩, .bool false]), 9, 120) := by kernel_rfl
def CellsAt (W : World) (b o : Nat) (x : RelL) (r : Value) : Prop :=
  W.cell? ⟨b, o, none⟩ = some (.string x.path) ∧ W.cell? ⟨b, o + 1, none⟩ = some (intC x.ver.1) ∧ W.cell? ⟨b, o + 2, none⟩ = some (intC x.ver.2.1) ∧ W.cell? ⟨b, o + 3, none⟩ = some (intC x.ver.2.2) ∧ W.cell? ⟨b, o + 4, none⟩ = some r ∧
    W.cell? ⟨b, o + 5, none⟩ = some (.string x.ar) ∧ W.cell? ⟨b, o + 6, none⟩ = some (.string x.ifc) ∧ W.cell? ⟨b, o + 7, none⟩ = some (.string x.cert) ∧ W.cell? ⟨b, o + 8, none⟩ = some (.bool x.yk)
theorem CellsAt.below {W W' : World} {B b o : Nat} {x : RelL} {r : Value} (h : CellsAt W b o x r) (hb : RowKit.Below B W W') (hlt : b < B) : CellsAt W' b o x r := by
  obtain ⟨h0, h1, h2, h3, h4, h5, h6, h7, h8⟩ := h
  have key : ∀ j, W'.cell? ⟨b, j, none⟩ = W.cell? ⟨b, j, none⟩ := fun j => hb.cell (p := ⟨b, j, none⟩) hlt
  exact ⟨(key _).trans h0, (key _).trans h1, (key _).trans h2, (key _).trans h3, (key _).trans h4, (key _).trans h5, (key _).trans h6, (key _).trans h7, (key _).trans h8⟩
theorem RelsOf.rv {B : Nat} {v : Value} {X : List RelL} {w : World} (h : RelsOf B v X w) : ∃ ao cap, ∃ rv : Nat → Value, v = .slice ao X.length cap ∧ ∀ i x, X[i]? = some x → ∃ b off, ao = some ⟨b, off, none⟩ ∧ b < B ∧ CellsAt w b (off + i * 9) x (rv i) ∧ ReqsOf B (rv i) x.reqs w := by
  obtain ⟨ao, cap, rfl, h⟩ := h
  refine ⟨ao, cap, fun i => match ao with | some a => (w.cell? ⟨a.block, a.off + i * 9 + 4, none⟩).getD undef | none => undef, rfl, fun i x hx => ?_⟩
  obtain ⟨b, off, rfl, hb, r, h0, h1, h2, h3, h4, h5, h6, h7, h8, h9⟩ := h i x hx
  simp only
  rw [h4]
  exact ⟨b, off, rfl, hb, ⟨h0, h1, h2, h3, h4, h5, h6, h7, h8⟩, h9⟩
end Go.Proofs.YtnjiibiafhnmgaaGreatDoor
