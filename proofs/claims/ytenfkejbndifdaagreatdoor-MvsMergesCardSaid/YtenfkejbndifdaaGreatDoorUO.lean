/- Contracts of mvs.newest and names. A slice of the call's own is a slice. Contract of the world's names. Contract of the world's reach. -/
import Derived.Test.YtenfkejbndifdaaGreatDoorUN
import Derived.Test.YtenfkejbndifdaaGreatDoorUG
import Derived.Test.YtenfkejbndifdaaGreatDoorUL
namespace Go.Proofs.YtenfkejbndifdaaGreatDoor
set_option linter.unusedVariables false
set_option linter.unusedSimpArgs false
open Go Go.RowKit Go.Maps

def byN (nw : Bool) (X : List RelL) (mn : Int) (l : List Nat) : Option Nat := if nw = true then (match l.getLast? with
    | some i => if geB X mn i = true then some i else none
    | none => none) else l.find? (geB X mn)
theorem named_by {nw : Bool} {X : List RelL} (hX : IdxOk X) {q : ReqL} (hq : UpQ q) : namedI nw X q = byN nw X (leastV q.2).1 (availI X q.1) := by
  cases nw with
  | false => rw [named_old hX hq]; rfl
  | true => rw [named_new hX hq]; rfl
def ValidX (X : List RelL) : Prop := ∀ i, i < X.length → validB (X.getD i default).ver.1 (X.getD i default).ver.2.1 (X.getD i default).ver.2.2 = true
theorem validX {X : List RelL} (hX : IdxOk X) : ValidX X := fun i hi => (hX.rel i hi).val
def BySpec (nw : Bool) (fid : Nat) (X : List RelL) : Prop := ∀ (W : World) (g : Nat) (a : Option Addr) (c m n : Nat) (f : Lit → Option Value) (l : List Nat) (lv : Value) (mn : Int), WorldOf W g X a c m n f → (∀ i ∈ l, i < X.length) → l.length ≤ 1000000 → RowOf natC W.heap.size lv l W →
  Calls Tryz.prog fid #[.pointer (some ⟨g, 0, none⟩), lv, .int .i64 mn] W fun e w' => e = .returned (.int .i64 (optN (byN nw X mn l))) ∧ Below W.heap.size W w'
theorem by_old {X : List RelL} (hv : ValidX X) (hX : X.length ≤ 1000000) : BySpec false 51 X := fun W g a c m n f l lv mn hw hl hll hL => oldest_any g X a c m n f l lv mn W hw hv hl hll hX hL
def HeldN (g lb lo k b o : Nat) (xv : Value) (i : Nat) (x : RelL) (r : Value) (W : World) : Prop := W.cell? ⟨g, 0, none⟩ = some xv ∧ W.cell? ⟨lb, lo + k, none⟩ = some (.int .i64 i) ∧ CellsAt W b o x r
end Go.Proofs.YtenfkejbndifdaaGreatDoor

namespace Go.Proofs.YtenfkejbndifdaaGreatDoor
set_option linter.unusedVariables false
set_option linter.unusedSimpArgs false
open Go Go.RowKit

theorem own_any {W : World} {B e s n : Nat} {v : Value} {xs : List Value} (h : W.ownsRow B e s v n xs) : ∃ a c, v = .slice a n c := by
  rcases h.2 with ⟨rfl, rfl⟩ | ⟨g, cap, cur, rfl, _⟩
  · exact ⟨_, _, rfl⟩
  · exact ⟨_, _, rfl⟩
end Go.Proofs.YtenfkejbndifdaaGreatDoor

namespace Go.Proofs.YtenfkejbndifdaaGreatDoor
set_option linter.unusedVariables false
set_option linter.unusedSimpArgs false
open Go Go.RowKit Go.Maps

def NamesR (nw : Bool) (X : List RelL) (l : List ReqL) (w : World) (e : Ending) (w' : World) : Prop := Below w.heap.size w w' ∧
  ((AllN nw X l ∧ ∃ v, e = .returned (.tuple #[v, .bool true]) ∧ w'.ownsRow w.heap.size 3 1 v (namesL nw X l).length ((namesL nw X l).map natC)) ∨ (¬ AllN nw X l ∧ e = .returned (.tuple #[.slice none 0 0, .bool false])))
theorem AllN.snoc {nw : Bool} {X : List RelL} {l : List ReqL} {k i : Nat} (hk : k < l.length) (h : AllN nw X (l.take k)) (hn : namedI nw X l[k] = some i) : AllN nw X (l.take (k + 1)) := fun q hq => by
  rw [List.take_succ_eq_append_getElem hk] at hq
  rcases List.mem_append.1 hq with hq | hq
  · exact h q hq
  · rw [List.mem_singleton] at hq; rw [hq, hn]; rfl
set_option maxRecDepth 100000 in
set_option maxHeartbeats 8000000 in
theorem names_any (nw : Bool) (fid : Nat) (eg : ∀ args w, (callFunc fid args).run Tryz.prog w = .ok (.enter fid args) w) (g : Nat) (X : List RelL) (a : Option Addr) (c m n : Nat) (f : Lit → Option Value) (hby : BySpec nw fid X) (hX : IdxOk X) (hXl : X.length ≤ 1000000)
    (l : List ReqL) (lv : Value) (w : World) (hw : WorldOf w g X a c m n f) (hu : ∀ q ∈ l, UpQ q) (hll : l.length ≤ 1000000) (hq : ReqsBd l) (hL : ReqsOf w.heap.size lv l w) :
    Calls Tryz.prog 57 #[.pointer (some ⟨g, 0, none⟩), .func (.func fid) #[] #[], lv] w (NamesR nw X l w) := by
  have HW := Lib.hid hw
  have HU := Lib.hid hu
  have HQ := Lib.hid hq
  have HBY := Lib.hid hby
  have HXO := Lib.hid hX
  obtain ⟨la, lc, rfl, hat⟩ := hL
  have HAT := Lib.hid hat
  have hgl := hw.lt
  obtain ⟨i0, hi0', hz0, hz1, hz2⟩ := info_parts info_ints
  clear hw hu hq hby hX hat
  go_enter Tryz.func57, Tryz.ntmps57
  go_wp2_with fail
  go_loopw [8, 16] (fun ov p wr => ∃ k : Nat, k ≤ l.length ∧ p = .int .i64 k ∧ Hid (AllN nw X (l.take k)) ∧ Hid (wr.ownsRow w.heap.size 3 1 ov k ((namesL nw X (l.take k)).map natC)) ∧ Hid (Below w.heap.size w wr)) (fun _ p _ => l.length - (intOf p).toNat)
  case atStart => exact ⟨0, Nat.zero_le _, rfl, Lib.hid (by rintro q hq; simp at hq), Lib.hid (World.ownsRow_nil _ _ _ _), Lib.hid (Below.refl _ _)⟩
  case round =>
    obtain ⟨k, hk, rfl, HAN, HO, HB⟩ := hrel
    obtain ⟨oa, oc, rfl⟩ := own_any HO.out
    by_cases hlt : k < l.length
    case neg =>
      have hk2 : k = l.length := by omega
      subst hk2
      rw [List.take_length] at HAN HO
      have HLN := Lib.hid (namesL_all HAN.out)
      go_wp2_with fail
      go_ret2
      exact ⟨HB.out, .inl ⟨HAN.out, _, rfl, by rw [HLN.out]; exact HO.out⟩⟩
    case pos =>
      obtain ⟨b, off, r, rfl, hbl, hc1, hc2, hsp⟩ := HAT.out k l[k] (by simp [hlt])
      have HNO : Hid (namedI nw X l[k] = none → ¬ AllN nw X l) := Lib.hid (fun h ha => by have := ha l[k] (List.getElem_mem hlt); rw [h] at this; cases this)
      have HSN : Hid (∀ i, namedI nw X l[k] = some i → AllN nw X (l.take (k + 1)) ∧ namesL nw X (l.take (k + 1)) = namesL nw X (l.take k) ++ [i]) := Lib.hid (fun i h => ⟨HAN.out.snoc hlt h, by rw [List.take_succ_eq_append_getElem hlt]; exact namesL_snoc h⟩)
      have HUQ := Lib.hid (HU.out l[k] (List.getElem_mem hlt))
      have hqb := HQ.out l[k] (List.getElem_mem hlt)
      generalize l[k] = q at *
      have d0 := (HB.out.cell (p := ⟨b, off + k * 2, none⟩) hbl).trans hc1
      have d1 := (HB.out.cell (p := ⟨b, off + k * 2 + 1, none⟩) hbl).trans hc2
      have hbw : b < wr.heap.size := Nat.lt_of_lt_of_le hbl HB.out.size
      have HSP := Lib.hid ((hsp.below HB.out (Nat.le_refl _)).mono HB.out.size)
      obtain ⟨ra, rc, rfl, _⟩ := hsp
      have HNM := Lib.hid (named_by (nw := nw) HXO.out HUQ.out)
      have HLE := Lib.hid (fun W' (h : Below wr.heap.size wr W') => Least_any (.slice ra q.2.length rc) q.2 W' (by omega) ((HSP.out.below h (Nat.le_refl _)).mono h.size))
      obtain ⟨⟨mn, mb⟩, hmn⟩ : ∃ z, leastV q.2 = z := ⟨_, rfl⟩
      rw [hmn] at HLE HNM
      have HB1 : Hid (Below wr.heap.size wr (wr.alloc (.cells #[.string q.1, .slice ra q.2.length rc] 58))) := Lib.hid (belQ _ _)
      have HG1 : Hid ((wr.alloc (.cells #[.string q.1, .slice ra q.2.length rc] 58)).heap[wr.heap.size]? = some (.cells #[.string q.1, .slice ra q.2.length rc] 58 (0, 0))) := Lib.hid (World.alloc_heap_new wr _)
      have hps : q.1.size ≤ maxLen := by unfold maxLen; omega
      have hgz : wr.heap.size < (wr.alloc (.cells #[.string q.1, .slice ra q.2.length rc] 58)).heap.size := by simp
      clear hmn hc1 hc2 HSP hqb
      go_upto_region 5 with fail
      generalize wr.alloc (.cells #[.string q.1, .slice ra q.2.length rc] 58) = W1 at *
      have c0 : W1.cell? ⟨wr.heap.size, 0, none⟩ = some (.string q.1) := cell_of_row _ _ 0 _ _ _ HG1.out
      have c1 : W1.cell? ⟨wr.heap.size, 1, none⟩ = some (.slice ra q.2.length rc) := cell_of_row _ _ 1 _ _ _ HG1.out
      clear d0 d1
      go_wp2_with fail
      refine (HLE.out _ HB1.out).mono ?_
      rintro e w2 ⟨rfl, hb2⟩
      have HB2 := Lib.hid (HB1.out.trans (hb2.mono HB1.out.size))
      have HG2 := Lib.hid ((hb2.block wr.heap.size hgz).trans HG1.out)
      have hgz2 : wr.heap.size < w2.heap.size := Nat.lt_of_lt_of_le hgz hb2.size
      clear hb2 c0 c1 HB1 HG1 hgz
      go_upto_region 6 with fail
      have HBW := Lib.hid (HB.out.trans (HB2.out.mono HB.out.size))
      have HWW := Lib.hid (HW.out.below HBW.out)
      have HS : Hid (∀ W', Below w2.heap.size w2 W' → HeldW g wr.heap.size m n q.1 f W') := Lib.hid (fun W' hb => ⟨(HWW.out.below hb).c1, cell_of_row _ _ 0 _ _ _ ((hb.block _ hgz2).trans HG2.out), (HWW.out.below hb).map⟩)
      obtain ⟨rv, hrv⟩ : ∃ rv, (f (.string q.1.data.toList)).getD (.slice none 0 0) = rv := ⟨_, rfl⟩
      have HRV := Lib.hid hrv
      have HRO := Lib.hid (HWW.out.rows q.1)
      rw [hrv] at HRO
      clear hrv
      refine wp_region_noPanic ?_
      refine wp_region_held_drew (S := HeldW g wr.heap.size m n q.1 f) (by kernel_rfl) (HS.out w2 (Below.refl _ _)) (fun hS0 => ?_)
      (refine zl3 0 ?_ rfl ?_ ?_; rotate_left; (· (rintro w ⟨c0, c1, c2⟩; go_simp; try with_reducible rfl)); (try simp only [zl1]))
      (refine zl3 1 ?_ rfl ?_ ?_; rotate_left; (· (rintro w ⟨c0, c1, c2⟩; go_simp; try with_reducible rfl)); (try simp only [zl1]))
      (refine zl3 2 ?_ rfl ?_ ?_; rotate_left; (· (rintro w ⟨c0, c1, c2⟩; go_simp; try with_reducible rfl)); (try simp only [zl1]))
      (refine zl3 3 ?_ rfl ?_ ?_; rotate_left; (· (rintro w ⟨c0, c1, c2⟩; go_simp; try with_reducible rfl)); (try simp only [zl1]))
      (refine zl3 4 ?_ rfl ?_ ?_; rotate_left; (· (rintro w ⟨c0, c1, c2⟩; go_simp; try with_reducible rfl)); (try simp only [zl1]))
      (refine zl3 5 ?_ rfl ?_ ?_; rotate_left; (· (rintro w ⟨c0, c1, c2⟩; go_simp; try with_reducible rfl)); (try simp only [zl1]))
      (refine zl3 6 ?_ rfl ?_ ?_; rotate_left; (· (rintro w ⟨c0, c1, c2⟩; go_simp; try with_reducible rfl)); (try simp only [zl1]))
      (refine zl3 7 ?_ rfl ?_ ?_; rotate_left; (· (rintro w ⟨c0, c1, c2⟩; go_simp; try with_reducible rfl)); (try simp only [zl1]))
      refine wpAnyH_take (i := 8) (v := rv) rfl (by kernel_rfl) (by kernel_rfl) (by kernel_rfl) (fun _ _ _ h => h) ?look hS0 ?_
      case look =>
        rw [← HRV.out]
        exact yields_look_F rfl _ _ _ rfl 9 79 lawStr Tryz.underlying84 (fun W => Tryz.zeroValue79 W) m n f (by rfl) (fun W h => h.2.2) (.string q.1) (.string q.1.data.toList) (by rfl) (keyStr hps)
      (try simp only [zl1])
      (refine zl3 9 ?_ rfl ?_ ?_; rotate_left; (· (rintro w ⟨c0, c1, c2⟩; go_simp; try with_reducible rfl)); (try simp only [zl1]))
      refine wpAnyH_ready (rs := [10]) (by kernel_rfl) (by simp) (AllReadyH.cons rfl (fun K hK => ?_) AllReadyH.nil)
      go_simp
      have HDR : Hid (Below w2.heap.size w2 w2.drew) := Lib.hid (Below.refl _ _).drew
      have hav : ∀ i ∈ availI X q.1, i < X.length := fun i hi => by
        unfold availI at hi
        exact List.mem_range.1 (List.mem_filter.1 hi).1
      have hal : (availI X q.1).length ≤ 1000000 := by
        have := availK_len X X.length q.1
        rw [availK_all] at this
        omega
      refine (HBY.out w2.drew g a c m n f (availI X q.1) rv mn (HWW.out.below HDR.out) hav hal (HRO.out.below HDR.out (Nat.le_refl _))).mono ?_
      rintro e w3 ⟨rfl, hb3⟩
      have HB3 := Lib.hid (HDR.out.trans hb3)
      clear hav hal
      refine hK.out _ _ (HS.out _ HB3.out) (fun _ => ?_)
      clear hK K hS0 hb3 HDR
      (try simp only [zl1])
      (refine zl3 11 ?_ rfl ?_ ?_; rotate_left; (· (rintro w ⟨c0, c1, c2⟩; go_simp; try with_reducible rfl)); (try simp only [zl1]))
      refine wpAnyH_done (by kernel_rfl) ?_ _
      refine NoPanic.normal ?_
      have HB4 := Lib.hid (HB2.out.trans (HB3.out.mono HB2.out.size))
      have HOA : Hid (w3.ownsRow w.heap.size 3 1 (.slice oa k oc) k ((namesL nw X (l.take k)).map natC)) := Lib.hid (own_far HO.out (fun i hi => HB4.out.block i (HO.out.lt i hi).2))
      have HBZ := Lib.hid (HB.out.trans (HB4.out.mono HB.out.size))
      have hs3 := HBZ.out.size
      rw [← HNM.out]
      clear HS HB3 HB2 HG2 HWW HRO HO HNM
      cases hnm : namedI nw X q with
      | none =>
        have HN := Lib.hid (HNO.out hnm)
        clear hnm
        have h01 : optN none < 0 := by decide
        have h02 : decide (optN none < 0) = true := decide_eq_true h01
        go_wp2_with fail
        go_ret2
        exact ⟨HBZ.out, .inr ⟨HN.out, rfl⟩⟩
      | some i =>
        obtain ⟨hs1, hs2⟩ := HSN.out i hnm
        have HS1 := Lib.hid hs1
        have HS2 := Lib.hid hs2
        clear hnm hs1 hs2
        have h01 : ¬ ((i : Int) < 0) := by omega
        have h02 : decide ((i : Int) < 0) = false := decide_eq_false h01
        simp only [optN]
        have HN9 : Hid ((w3.alloc (.cells #[.int .i64 (i : Int)] 3)).heap[w3.heap.size]? = some (.cells #[.int .i64 (i : Int)] 3)) := Lib.hid (heap_alloc_new w3 _)
        go_wp2_with (at_builtin; refine wpList_append_own _ rfl _ _ 79 rfl w.heap.size 3 i0 _ 1 8 Tryz.underlying79 hi0' hz0 hz1 hz2 rfl (by decide) (.slice oa k oc) _ _ (by rfl) (HOA.out.alloc _) ⟨w3.heap.size, 0, none⟩ 1 1 [.int .i64 (i : Int)] (by rfl) (by rfl) (World.news_of_block HN9.out) (by simp [Value.oneCell']) (by unfold maxLen; omega) (by omega) (by simp; omega) ?_; intro v' wB hown' hgrow _; have HOW := Lib.hid hown'; have HGR := Lib.hid hgrow; clear hown' hgrow; obtain ⟨g3, gc3, rfl⟩ := ownsRow_succ HOW.out)
        go_roundw
        case rel => exact ⟨k + 1, by omega, by go_num, HS1, Lib.hid (by rw [HS2.out, List.map_append]; exact HOW.out), Lib.hid ((HBZ.out.alloc hs3 _).grown HGR.out (by simp; omega) (fun b hb => (HOA.out.lt b hb).1))⟩
        case measure => simp [intOf]; omega
end Go.Proofs.YtenfkejbndifdaaGreatDoor

namespace Go.Proofs.YtenfkejbndifdaaGreatDoor
set_option linter.unusedVariables false
set_option linter.unusedSimpArgs false
open Go Go.RowKit Go.Maps

def keyN (p : Nat) : Lit := .int .i64 (p : Int)
theorem keyN_inj {p q : Nat} (h : keyN p = keyN q) : p = q := by
  unfold keyN at h
  injection h with _ h
  exact Int.ofNat.inj h
def SeenI (seen : List Nat) (f : Lit → Option Value) : Prop := (∀ p ∈ seen, f (keyN p) = some (.bool true)) ∧ ∀ q, (∀ p ∈ seen, keyN p ≠ q) → f q = none
theorem SeenI.start : SeenI [] (fun _ => none) := ⟨fun p hp => (by cases hp), fun _ _ => rfl⟩
theorem SeenI.put {seen : List Nat} {f : Lit → Option Value} (h : SeenI seen f) (p : Nat) : SeenI (p :: seen) (putF f (.int .i64 (p : Int)) (.bool true)) := by
  refine ⟨fun r hr => ?_, fun q hq => ?_⟩
  · by_cases e : keyN r = .int .i64 (p : Int)
    · rw [e, putF_same]
    · rw [putF_other _ _ e]
      rcases List.mem_cons.1 hr with rfl | hr
      · exact absurd rfl e
      · exact h.1 r hr
  · have e : q ≠ .int .i64 (p : Int) := fun e => hq p (by simp) e.symm
    rw [putF_other _ _ e]
    exact h.2 q fun r hr => hq r (by simp [hr])
theorem SeenI.look {seen : List Nat} {f : Lit → Option Value} (h : SeenI seen f) (p : Nat) : ∃ sb : Bool, (f (.int .i64 (p : Int))).getD (.bool false) = .bool sb ∧ (sb = true ↔ p ∈ seen) := by
  by_cases e : p ∈ seen
  · exact ⟨true, by rw [show Lit.int .i64 (p : Int) = keyN p from rfl, h.1 p e]; rfl, by simp [e]⟩
  · have h2 := h.2 (.int .i64 (p : Int)) fun r hr e2 => e (keyN_inj (p := r) (q := p) e2 ▸ hr)
    exact ⟨false, by rw [h2]; rfl, by simp [e]⟩
theorem SeenI.size {P : Program} {k : TypeId} {W : World} {b n : Nat} {seen : List Nat} {f : Lit → Option Value} (K : Keyed P k) (h : SeenI seen f) (hm : MapF P k W b n f) (hn : seen.Nodup) : mapLen P k W b = seen.length := by
  have hn2 : (seen.map keyN).Nodup := by
    unfold List.Nodup at hn ⊢
    rw [List.pairwise_map]
    exact hn.imp fun {a b} hab e => hab (keyN_inj e)
  rw [mapLen_of K hm _ hn2 (fun q => ?_), List.length_map]
  by_cases e : q ∈ seen.map keyN
  · obtain ⟨p, hp, rfl⟩ := List.mem_map.1 e
    rw [h.1 p hp]
    exact ⟨fun _ => rfl, fun _ => e⟩
  · rw [h.2 q fun p hp e2 => e (List.mem_map.2 ⟨p, hp, e2⟩)]
    exact ⟨fun h => absurd h e, fun h => by cases h⟩
theorem nums_src {B : Nat} {l : List Nat} {W : World} {v : Value} (h : RowOf natC B v l W) : Src Tryz.prog 1 79 v l.length (l.map natC) W := by
  rcases h with ⟨rfl, a, c, rfl⟩ | ⟨b, off, cap, rfl, _, hc⟩
  · cases a with
    | none => exact Src.ofNil _ Tryz.underlying79 c
    | some a => exact Src.ofSlice _ Tryz.underlying79 a 0 c [] rfl (fun j u hu => by simp at hu) (fun _ h => by cases h)
  · refine Src.ofSlice _ Tryz.underlying79 ⟨b, off, none⟩ l.length cap _ (by simp) (fun j u hu => ?_) (fun u hu => ?_)
    · rw [Addr.add_lit]
      rw [List.getElem?_map] at hu
      obtain ⟨x, hx, rfl⟩ := Option.map_eq_some_iff.1 hu
      exact hc j x hx
    · obtain ⟨x, _, rfl⟩ := List.mem_map.1 hu
      rfl
def reachM (b : Value) (n : Nat) : Nat := match b with
  | .bool true => n + 1
  | _ => 0
def ReachL (nw : Bool) (X : List RelL) (roots : List ReqL) (w0 : World) (B mb : Nat) (J : List Nat → (Nat → Prop) → World → Prop) (tv : Value) (wr : World) : Prop := ∃ (seen todo : List Nat) (f2 : Lit → Option Value) (D : Nat → Prop), RchI nw X roots seen todo ∧ SegC wr B 1 tv todo.length (todo.map natC) ∧ MapF Tryz.prog 3 wr mb seen.length f2 ∧ SeenI seen f2 ∧ segK tv ≠ some mb ∧ todo.length + 17 * (X.length - seen.length) ≤ roots.length + 17 * X.length ∧ Below w0.heap.size w0 wr ∧ J seen D wr ∧ (∀ b, D b → b < wr.heap.size) ∧ ¬ D mb ∧ ∀ b, segK tv = some b → ¬ D b
theorem ReachL.mk {nw : Bool} {X : List RelL} {roots : List ReqL} {w0 : World} {B mb : Nat} {J : List Nat → (Nat → Prop) → World → Prop} {tv : Value} {wr : World} {seen todo : List Nat} {f2 : Lit → Option Value} {D : Nat → Prop} (h1 : RchI nw X roots seen todo) (h2 : SegC wr B 1 tv todo.length (todo.map natC)) (h3 : MapF Tryz.prog 3 wr mb seen.length f2) (h4 : SeenI seen f2) (h5 : segK tv ≠ some mb) (h6 : todo.length + 17 * (X.length - seen.length) ≤ roots.length + 17 * X.length) (h7 : Below w0.heap.size w0 wr) (h8 : J seen D wr) (h9 : ∀ b, D b → b < wr.heap.size) (h10 : ¬ D mb) (h11 : ∀ b, segK tv = some b → ¬ D b) : ReachL nw X roots w0 B mb J tv wr := ⟨seen, todo, f2, D, h1, h2, h3, h4, h5, h6, h7, h8, h9, h10, h11⟩
def ReachR (nw : Bool) (X : List RelL) (roots : List ReqL) (w0 : World) (J : List Nat → (Nat → Prop) → World → Prop) (e : Ending) (w' : World) : Prop := Below w0.heap.size w0 w' ∧
  ((∃ s D, e = .returned (.bool true) ∧ RchI nw X roots s [] ∧ J s D w') ∨ (e = .returned (.bool false) ∧ ¬ AllM nw X roots))
theorem reqs_upq {X : List RelL} {roots : List ReqL} (h : PlainP X roots) {i : Nat} (hi : i < X.length) : ∀ q ∈ (X.getD i default).reqs, UpQ q := fun _ hq => (h.up hi).q hq
def VisitOk (nw : Bool) (vid : Nat) (lb : Array Value) (X : List RelL) (w0 : World) (gm : Nat) (J : List Nat → (Nat → Prop) → World → Prop) : Prop := ∀ (s : List Nat) (D : Nat → Prop) (W : World) (i : Nat) (nv : Value), J s D W → (∀ b, D b → b < W.heap.size) → Below w0.heap.size w0 W → i < X.length → i ∉ s → s.length < X.length → AllN nw X (X.getD i default).reqs →
  RowOf natC W.heap.size nv (namesL nw X (X.getD i default).reqs) W → Calls Tryz.prog vid (#[.int .i64 (i : Int), nv] ++ lb) W fun e w' => e = .returned (.tuple #[]) ∧ W.grownBy w' (some gm) ∧ ∃ D', J (i :: s) D' w' ∧ (∀ b, D' b → b < w'.heap.size) ∧ ∀ b, D' b → D b ∨ W.heap.size ≤ b
def JKept (w : World) (J : List Nat → (Nat → Prop) → World → Prop) : Prop := ∀ (s : List Nat) (D : Nat → Prop) (W W' : World) (row : Option Nat), J s D W → w.heap.size ≤ W.heap.size → W.grownBy W' row → (∀ b, row = some b → w.heap.size ≤ b ∧ ¬ D b) → J s D W'
theorem grown_of_below {W W' : World} (hb : Below W.heap.size W W') : W.grownBy W' none := ⟨hb.os, hb.tape, hb.output, hb.size, fun i hi _ => hb.block i hi⟩
set_option maxRecDepth 100000 in
set_option maxHeartbeats 8000000 in
theorem reach_any (nw : Bool) (fid vid : Nat) (lb : Array Value) (eg : ∀ args w, (callFunc fid args).run Tryz.prog w = .ok (.enter fid args) w) (ev : ∀ args w, (callFunc vid args).run Tryz.prog w = .ok (.enter vid args) w)
    (g : Nat) (X : List RelL) (a : Option Addr) (c m n : Nat) (f : Lit → Option Value) (hby : BySpec nw fid X) (hXl : X.length ≤ 1000000) (hXb : ∀ x ∈ X, RelBd x)
    (roots : List ReqL) (lv : Value) (hp : PlainP X roots) (hll : roots.length ≤ 1000000) (hq : ReqsBd roots) (w0 w : World) (gm : Nat) (J : List Nat → (Nat → Prop) → World → Prop) (hw : WorldOf w0 g X a c m n f) (hb0 : Below w0.heap.size w0 w) (hg0 : w0.heap.size ≤ gm) (hg1 : gm < w.heap.size)
    (hL : ReqsOf w.heap.size lv roots w) (hJ0 : J [] (fun _ => False) w) (hJk : JKept w J) (hV : VisitOk nw vid lb X w0 gm J) :
    Calls Tryz.prog 102 #[.pointer (some ⟨g, 0, none⟩), .func (.func fid) #[] #[], lv, .func (.func vid) #[] lb] w (ReachR nw X roots w0 J) := by
  have HW := Lib.hid hw
  have HQ := Lib.hid hq
  have HP := Lib.hid hp
  have HB0 := Lib.hid hb0
  have HJ0 := Lib.hid hJ0
  have HJK := Lib.hid hJk
  have HV := Lib.hid hV
  have HXB := Lib.hid hXb
  have hgl := hw.lt
  have hws := hb0.size
  have HN1 := Lib.hid (names_any nw fid eg g X a c m n f hby (idx_ok hp.idx) hXl roots lv w (hw.below hb0) (fun q hq2 => hp.roots.q hq2) hll hq hL)
  have HNM := Lib.hid (fun (W : World) (i : Nat) (r : Value) (hi : i < X.length) (hb : Below w0.heap.size w0 W) (hR : ReqsOf W.heap.size r (X.getD i default).reqs W) => names_any nw fid eg g X a c m n f hby (idx_ok hp.idx) hXl (X.getD i default).reqs r W (hw.below hb) (reqs_upq hp hi)
    (by have := (hXb _ (List.getElem_mem hi)).len; rw [List.getD_eq_getElem?_getD, List.getElem?_eq_getElem hi]; exact this) (by have := (hXb _ (List.getElem_mem hi)).reqs; rw [List.getD_eq_getElem?_getD, List.getElem?_eq_getElem hi]; exact this) hR)
  obtain ⟨la, lc, rfl⟩ : ∃ la lc, lv = .slice la roots.length lc := by obtain ⟨a, c, e, _⟩ := hL; exact ⟨a, c, e⟩
  clear hw hq hp hb0 hL hJ0 hJk hV hXb hby
  go_enter Tryz.func102, Tryz.ntmps102
  go_wp2_with fail
  refine HN1.out.mono ?_
  rintro e w1 ⟨hb1, h1⟩
  have HB1 := Lib.hid (HB0.out.trans (hb1.mono hws))
  have hw1 := hb1.size
  have HJ1 := Lib.hid (HJK.out [] _ w w1 none HJ0.out (Nat.le_refl _) (grown_of_below hb1) (fun b hb => by cases hb))
  clear hb1 HN1 HJ0
  have hmm := @run_makeMap Tryz.prog
  rcases h1 with ⟨hall, v1, rfl, how⟩ | ⟨hno, rfl⟩
  case inr =>
    have HNO := Lib.hid (RchI.noroot hno)
    clear hno
    go_wp2_with fail
    go_loopw [10] (fun b wr => b = .bool false ∧ Hid (Below w0.heap.size w0 wr)) (fun _ _ => 0)
    case atStart => exact ⟨rfl, Lib.hid (HB1.out.alloc (by omega) _)⟩
    case round =>
      obtain ⟨rfl, HB⟩ := hrel
      go_wp2_with fail
      go_ret
      exact ⟨HB.out, .inr ⟨rfl, HNO.out⟩⟩
  have HST := Lib.hid (RchI.start hall)
  have HSG : Hid (SegC w1 w.heap.size 1 v1 (namesL nw X roots).length ((namesL nw X roots).map natC)) := Lib.hid (own_seg how (by omega))
  have HM2 := Lib.hid (MapF.made Tryz.prog 3 w1)
  have HB2 : Hid (Below w0.heap.size w0 (w1.alloc (.map #[] 0))) := Lib.hid (HB1.out.alloc (by omega) _)
  have HJ2 := Lib.hid (HJK.out [] _ w1 (w1.alloc (.map #[] 0)) none HJ1.out hw1 (grown_of_below (belQ w1 _)) (fun b hb => by cases hb))
  have HSG2 : Hid (SegC (w1.alloc (.map #[] 0)) w.heap.size 1 v1 (namesL nw X roots).length ((namesL nw X roots).map natC)) := Lib.hid (HSG.out.far (by simp) (fun b hb => (belQ w1 (.map #[] 0)).block b (HSG.out.lt b hb).2))
  have HNE : Hid (segK v1 ≠ some w1.heap.size) := Lib.hid (fun e => absurd (HSG.out.lt _ e).2 (Nat.lt_irrefl _))
  have HLN := Lib.hid (namesL_len (nw := nw) (X := X) (l := roots))
  clear hall how hmm HSG HJ1 HB1
  obtain ⟨i0, hi0', hz0, hz1, hz2⟩ := info_parts info_ints
  have hmm := @run_makeMap Tryz.prog
  go_wp2_with fail
  clear hmm
  go_loopw [9, 10] (fun tv b wr => (b = .bool true ∧ Hid (ReachL nw X roots w0 w.heap.size w1.heap.size J tv wr)) ∨ (b = .bool false ∧ Hid (Below w0.heap.size w0 wr ∧ ¬ AllM nw X roots))) (fun tv b wr => reachM b (sliceN tv + 17 * (X.length - mapLen Tryz.prog 3 wr w1.heap.size)))
  case atStart => exact .inl ⟨rfl, Lib.hid (ReachL.mk HST.out HSG2.out HM2.out SeenI.start HNE.out (by have := HLN.out; simp; omega) HB2.out HJ2.out (fun _ h => h.elim) (fun h => h) (fun _ _ h => h))⟩
  case round =>
    rcases hrel with ⟨rfl, HREL⟩ | ⟨rfl, HREL⟩
    case inr =>
      go_wp2_with fail
      go_ret
      exact ⟨HREL.out.1, .inr ⟨rfl, HREL.out.2⟩⟩
    obtain ⟨seen, todo, f2, D, hri, hsg, hmf, hse, hne, hle, hbb, hj, hd1, hd2, hd3⟩ := HREL.out
    have HD1 := Lib.hid hd1
    have HD2 := Lib.hid hd2
    have HD3 := Lib.hid hd3
    have HRI := Lib.hid hri
    have HSG := Lib.hid hsg
    have HMF := Lib.hid hmf
    have HSE := Lib.hid hse
    have HNT := Lib.hid hne
    have HLE := Lib.hid hle
    have HBB := Lib.hid hbb
    have HJ := Lib.hid hj
    have hsl := hri.len
    have hs8 := hbb.size
    have hml : w1.heap.size < wr.heap.size := hmf.lt
    clear HREL hri hsg hmf hse hne hle hbb hj hd1 hd2 hd3 HST HSG2 HM2 HNE HB2 HJ2
    cases todo with
    | nil =>
      obtain ⟨ta, tc, rfl⟩ := HSG.out.shape
      simp only [List.length_nil] at *
      go_wp2_with fail
      go_ret
      exact ⟨HBB.out, .inl ⟨seen, D, rfl, HRI.out, HJ.out⟩⟩
    | cons i todo =>
      obtain ⟨qg, qo, qc, rfl, hcell, htail⟩ := SegC.head (n := todo.length) HSG.out
      have c0 : wr.cell? ⟨qg, qo, none⟩ = some (.int .i64 (i : Int)) := (hcell 0 (by omega)).trans rfl
      have hql : (0 : Int) < ((todo.length + 1 : Nat) : Int) := by omega
      generalize hqa : (if qc = 0 then some (⟨qg, qo, none⟩ : Addr) else some ⟨qg, qo + 1, none⟩) = qa at htail
      have HTL : Hid (SegC wr w.heap.size 1 (.slice qa todo.length qc) todo.length (todo.map natC)) := Lib.hid htail
      have HNT2 : Hid (segK (.slice qa todo.length qc) ≠ some w1.heap.size) := Lib.hid (fun e => HNT.out (by
        rw [← hqa] at e
        cases qc with
        | zero => simp [segK] at e
        | succ qc => rw [if_neg (by omega)] at e; simp [segK] at e ⊢; exact e))
      have HD4 : Hid (∀ b, segK (.slice qa todo.length qc) = some b → ¬ D b) := Lib.hid (fun b e => HD3.out b (by
        rw [← hqa] at e
        cases qc with
        | zero => simp [segK] at e
        | succ qc => rw [if_neg (by omega)] at e; simp [segK] at e ⊢; exact e))
      have hrc := HRI.out.todoR i (by simp)
      have hix := hrc.lt.1
      have HLE2 : Hid ((todo.length + 1) + 17 * (X.length - seen.length) ≤ roots.length + 17 * X.length) := HLE
      obtain ⟨sb, hlk, hsb⟩ := HSE.out.look i
      have HLK := Lib.hid hlk
      have HSB := Lib.hid hsb
      have hztd : ∀ W, (zeroValue 4).run Tryz.prog W = .ok (.bool false) W := Tryz.zeroValue4
      have HZB := Lib.hid hztd
      have HKY := Lib.hid (keyI (a := (i : Int)) (by omega) (by omega))
      have HL1 := Lib.hid (HSE.out.size lawI HMF.out HRI.out.nodup)
      clear hlk hsb hztd hcell htail HSG HNT HLE hrc
      cases sb with
      | true =>
        have HIN := Lib.hid (show i ∈ seen from HSB.out.1 rfl)
        clear HSB
        go_wp2_with (at_lookup; refine wpList_look_F rfl _ _ 179 rfl 3 4 lawI Tryz.underlying179 (HZB.out _) w1.heap.size seen.length f2 (by rfl) HMF.out _ (.int .i64 (i : Int)) rfl HKY.out ?_; rw [HLK.out])
        go_frame
        go_roundw
        case rel => exact .inl ⟨rfl, Lib.hid (ReachL.mk (HRI.out.skip HIN.out) HTL.out HMF.out HSE.out HNT2.out (by have := HLE2.out; omega) HBB.out HJ.out HD1.out HD2.out HD4.out)⟩
        case measure => simp [reachM, sliceN]
      | false =>
        have hns : i ∉ seen := fun h => by have := HSB.out.2 h; cases this
        have HNS := Lib.hid hns
        have hsl2 : seen.length < X.length := HRI.out.lt hns
        clear hns
        go_upto_region 7 with (at_lookup; refine wpList_look_F rfl _ _ 179 rfl 3 4 lawI Tryz.underlying179 (HZB.out _) w1.heap.size seen.length f2 (by rfl) HMF.out _ (.int .i64 (i : Int)) rfl HKY.out ?_; rw [HLK.out])
        clear c0
        go_upto_region 8 with (refine wpList_put_F rfl _ _ _ _ rfl 3 4 lawI Tryz.underlying179 w1.heap.size seen.length f2 (by rfl) HMF.out (by unfold maxLen; omega) _ _ (.int .i64 (i : Int)) rfl rfl HKY.out ?_; intro W11 h11 g11; have H11 := Lib.hid h11; have G11 := Lib.hid g11; clear h11 g11)
        have HB11 : Hid (Below w0.heap.size w0 W11) := Lib.hid (HBB.out.grown G11.out hs8 (fun b hb => by cases hb; omega))
        have HJ11 := Lib.hid (HJK.out seen D wr W11 _ HJ.out (by omega) G11.out (fun b hb => by cases hb; exact ⟨by omega, HD2.out⟩))
        have HTL11 := Lib.hid (HTL.out.far G11.out.size (fun b hb => G11.out.block b (HTL.out.lt b hb).2 (by intro e; injection e with e; subst e; exact HNT2.out hb)))
        have hs11 : wr.heap.size ≤ W11.heap.size := G11.out.size
        obtain ⟨b, off, ra, rc, rfl, hbl, hcs, hrq⟩ := HW.out.rel hix
        have e0 := (HW.out.below HB11.out).c0
        obtain ⟨_, _, _, _, d4, _⟩ := hcs.below HB11.out hbl
        have HN2 := Lib.hid (HNM.out W11 i (.slice ra (X.getD i default).reqs.length rc) hix HB11.out ((hrq.below HB11.out (Nat.le_refl _)).mono HB11.out.size))
        have hix2 : (i : Int) < (X.length : Int) := by omega
        have hr16 : (X.getD i default).reqs.length ≤ 16 := (reqs_ok (HP.out.up hix).1).len
        have HNO2 : Hid (¬ AllN nw X (X.getD i default).reqs → ¬ AllM nw X roots) := Lib.hid HRI.out.no
        have HMK : Hid (AllN nw X (X.getD i default).reqs → RchI nw X roots (i :: seen) (todo ++ namesL nw X (X.getD i default).reqs)) := Lib.hid (fun h => HRI.out.mark HNS.out h)
        have HVV : Hid (∀ (W : World) (nv : Value), J seen D W → (∀ b, D b → b < W.heap.size) → Below w0.heap.size w0 W → AllN nw X (X.getD i default).reqs → RowOf natC W.heap.size nv (namesL nw X (X.getD i default).reqs) W → Calls Tryz.prog vid (#[.int .i64 (i : Int), nv] ++ lb) W fun e w' => e = .returned (.tuple #[]) ∧ W.grownBy w' (some gm) ∧ ∃ D', J (i :: seen) D' w' ∧ (∀ b, D' b → b < w'.heap.size) ∧ ∀ b, D' b → D b ∨ W.heap.size ≤ b) := Lib.hid (fun W nv h1 h5 h2 h3 h4 => HV.out seen D W i nv h1 h5 h2 hix HNS.out hsl2 h3 h4)
        clear hcs hrq
        generalize X.getD i default = x at *
        go_wp2_with fail
        refine HN2.out.mono ?_
        rintro e w3 ⟨hb3, h3⟩
        have HB3 := Lib.hid (HB11.out.trans (hb3.mono HB11.out.size))
        have hs3 := hb3.size
        have HJ3 := Lib.hid (HJK.out seen D W11 w3 none HJ11.out (by omega) (grown_of_below hb3) (fun b hb => by cases hb))
        have HM3 := Lib.hid (H11.out.below hb3)
        have HTL3 := Lib.hid (HTL11.out.far hs3 (fun b hb => hb3.block b (HTL11.out.lt b hb).2))
        clear hb3 HN2 e0 d4 HJ HJ11 HTL HTL11 HMF
        rcases h3 with ⟨hall, v3, rfl, how⟩ | ⟨hno, rfl⟩
        case inr =>
          have HNO := Lib.hid (HNO2.out hno)
          clear hno
          go_wp2_with fail
          go_roundw
          case rel => exact .inr ⟨rfl, Lib.hid ⟨HB3.out, HNO.out⟩⟩
          case measure => simp [reachM]
        have HALL := Lib.hid hall
        have HOW := Lib.hid how
        obtain ⟨na, nc, rfl⟩ := own_any how
        have HRW := Lib.hid (own_row HOW.out).2
        clear hall how
        have HVC := Lib.hid (HVV.out w3 _ HJ3.out (fun b hb => by have := HD1.out b hb; omega) HB3.out HALL.out HRW.out)
        go_wp2_with fail
        refine HVC.out.mono ?_
        rintro e w4 ⟨rfl, hg4, D4, hj4, hd5, hd6⟩
        have HD5 := Lib.hid hd5
        have HND : Hid (¬ D4 w1.heap.size) := Lib.hid (fun h => by
          rcases hd6 _ h with h | h
          · exact HD2.out h
          · omega)
        have HTD : Hid (∀ b, segK (.slice qa todo.length qc) = some b → ¬ D4 b) := Lib.hid (fun b hb h => by
          have hbl := (HTL3.out.lt b hb).2
          rcases hd6 _ h with h | h
          · exact HD4.out b hb h
          · omega)
        clear hd5 hd6
        have HB4 := Lib.hid (HB3.out.grown hg4 HB3.out.size (fun b hb => by cases hb; exact hg0))
        have HJ4 := Lib.hid hj4
        have hs4 : w3.heap.size ≤ w4.heap.size := hg4.size
        have HTL4 := Lib.hid (HTL3.out.far hs4 (fun b hb => hg4.block b (HTL3.out.lt b hb).2 (by intro e; injection e with e; have := (HTL3.out.lt b hb).1; omega)))
        have HM4 := Lib.hid (HM3.out.kept hg4 (by intro e; injection e with e; omega))
        have HOW4 := Lib.hid (own_far HOW.out (fun b hb => hg4.block b (HOW.out.lt b hb).2 (by intro e; injection e with e; have := (HOW.out.lt b hb).1; omega)))
        have HSRC := Lib.hid (nums_src (own_row HOW4.out).2)
        have hnl : (namesL nw X x.reqs).length ≤ x.reqs.length := namesL_len
        have htl : todo.length ≤ 18000000 := by have := HLE2.out; omega
        have HMK2 := Lib.hid (HMK.out HALL.out)
        have HSE2 := Lib.hid (HSE.out.put i)
        clear hg4 hj4 HTL3 HM3 HJ3 HRW HVC HVV
        have hsm : todo.length + (namesL nw X x.reqs).length ≤ 20000000 := by omega
        go_wp2_with (at_builtin; refine wpList_append_segC _ rfl _ _ 79 79 rfl 3 i0 _ 8 1 Tryz.underlying79 hi0' hz0 hz1 hz2 rfl w.heap.size (.slice qa todo.length qc) todo.length (todo.map natC) (by rfl) HTL4.out (by omega) (namesL nw X x.reqs).length ((namesL nw X x.reqs).map natC) HSRC.out (by unfold maxLen; omega) (by have := hsm; generalize todo.length + (namesL nw X x.reqs).length = z at this ⊢; omega) ?_; intro v12 W12 h12 g12 hb12; have H12 := Lib.hid h12; have G12 := Lib.hid g12; have HB12 := Lib.hid hb12; obtain ⟨va12, vc12, rfl⟩ := h12.shape; clear h12 g12 hb12)
        have HBF := Lib.hid (HB4.out.grown G12.out HB4.out.size (fun b hb => by have := (HTL4.out.lt b hb).1; omega))
        have HJF := Lib.hid (HJK.out (i :: seen) D4 w4 W12 _ HJ4.out (by omega) G12.out (fun b hb => ⟨(HTL4.out.lt b hb).1, HTD.out b hb⟩))
        have HMF := Lib.hid (HM4.out.kept G12.out (fun e => HNT2.out e.symm))
        have HNF : Hid (segK (.slice va12 (todo.length + (namesL nw X x.reqs).length) vc12) ≠ some w1.heap.size) := Lib.hid (fun e => by
          rcases HB12.out with h | h
          · rw [h] at e; exact HNT2.out e
          · have := h _ e; omega)
        have HTN : Hid (∀ b, segK (.slice va12 (todo.length + (namesL nw X x.reqs).length) vc12) = some b → ¬ D4 b) := Lib.hid (fun b hb h => by
          rcases HB12.out with h2 | h2
          · rw [h2] at hb; exact HTD.out b hb h
          · have := h2 b hb; have := HD5.out b h; omega)
        have HL2 := Lib.hid (HSE2.out.size lawI HMF.out HMK2.out.nodup)
        refine ⟨.inl ⟨rfl, Lib.hid (ReachL.mk HMK2.out (by rw [List.length_append, List.map_append]; exact H12.out) HMF.out HSE2.out HNF.out (by have := HLE2.out; rw [List.length_append, List.length_cons]; omega) HBF.out HJF.out (fun b hb => by have := HD5.out b hb; have := G12.out.size; omega) HND.out HTN.out)⟩, ?_⟩
        rw [HL1.out, HL2.out]
        simp only [reachM, sliceN, List.length_cons]
        omega
end Go.Proofs.YtenfkejbndifdaaGreatDoor
