/- Contract of the visit of a numbering. -/
import Derived.Test.YtnjiibiafhnmgaaGreatDoorYY
namespace Go.Proofs.YtnjiibiafhnmgaaGreatDoor
set_option linter.unusedVariables false
set_option linter.unusedSimpArgs false
open Go Go.RowKit

attribute [local go_sem] Oper.semAt_some

set_option maxRecDepth 100000 in
set_option maxHeartbeats 4000000 in
theorem tvisit_any (B0 : Nat) (p : TP) (v : Value) (S : List (List Nat)) (hp : TOk B0 p) (hS : S.length ≤ 1000000) (hSl : ∀ a, (S.getD a []).length ≤ 1000000) (hSk : ∀ a, ∀ k ∈ S.getD a [], k < S.length) :
    ∀ (m : Nat) (s : TS) (sv : Value) (n : Nat) (W : World), zeros s.ix ≤ m → TInv S.length s → n < S.length → gD s.ix n = 0 → B0 ≤ W.heap.size → TarW W B0 p v S s sv →
    Calls Tryz.prog 139 #[natC n, .pointer (some ⟨p.bx, 0, none⟩), .pointer (some ⟨p.bi, 0, none⟩), .pointer (some ⟨p.bl, 0, none⟩), .pointer (some ⟨p.bs, 0, none⟩), .pointer (some ⟨p.bg, 0, none⟩), .pointer (some ⟨p.bv, 0, none⟩), .pointer (some ⟨p.bc, 0, none⟩), .pointer (some ⟨p.bk, 0, none⟩)] W fun e W' =>
      e = .returned (.tuple #[]) ∧ ∃ sv', TarW W' B0 p v S (visitT S m s n) sv' ∧ TFr p W W' sv sv' := by
  intro m
  induction m with
  | zero =>
    intro s sv n W hm hI hn h0 hB hW
    have := zeros_set s.ix n 1 (by rw [hI.li]; exact hn) h0 (by decide)
    omega
  | succ m ih =>
    intro s sv n W hm hI hn h0 hB hW
    have hn0 : (0 : Int) ≤ (n : Int) := by omega
    have hn1 : (n : Int) < (S.length : Int) := by omega
    have hvo : v.oneCell' = true := by
      obtain ⟨_, _, hv⟩ | ⟨_, _, _, hv, _⟩ := hW.r
      · obtain ⟨_, rfl⟩ := hv; rfl
      · rw [hv]; rfl
    obtain ⟨hI1, hz1⟩ := hI.mark hn h0
    have hnx : s.nx ≤ 1000000 := by
      have h1 := hI.nz
      have h2 := zeros_set s.ix n 1 (by rw [hI.li]; exact hn) h0 (by decide)
      omega
    have hsl : s.st.length ≤ 1000000 := by have := hI.sl; omega
    have IH := Lib.hid ih
    have HI := Lib.hid hI
    have HI1 := Lib.hid hI1
    have HZ1 := Lib.hid hz1
    have HW := Lib.hid hW
    have H0 := Lib.hid h0
    have HP := Lib.hid hp
    have HSK := Lib.hid hSk
    have HSL := Lib.hid hSl
    clear ih hI hI1 hz1 hW h0
    refine (callsIn_wide (n := 9)).1 ?_
    refine callsIn_of_wp_marks Tryz.func139 rfl trivial ?_ rfl
    simp only [Tryz.ntmps139, List.size_toArray, List.length_cons, List.length_nil, Nat.reduceAdd, Nat.reduceSub, Array.replicate_succ, Array.replicate_zero, List.push_toArray, List.append_toArray, List.nil_append, List.cons_append]
    gi_wp2_with fail
    have htw : TarW (W.alloc (.cells #[natC n] 3)) B0 p v S s sv := HW.out.alloc _ hB
    have hfr : TFr p W (W.alloc (.cells #[natC n] 3)) sv sv := TFr.alloc _
    have hbn : Boxed (W.alloc (.cells #[natC n] 3)) W.heap.size 3 (natC n) := Boxed.new _ _ _
    have hs1 : (W.alloc (.cells #[natC n] 3)).heap.size = W.heap.size + 1 := by simp
    generalize W.alloc (.cells #[natC n] 3) = W1 at *
    have hHT : HeldT ⟨p.bi, 0, none⟩ ⟨W.heap.size, 0, none⟩ ⟨p.bl, 0, none⟩ ⟨p.bx, 0, none⟩ (.slice (some ⟨p.gi, 0, none⟩) S.length S.length) (natC n) (.slice (some ⟨p.gl, 0, none⟩) S.length S.length) (natC s.nx) W1.drew :=
      ⟨Boxed.cell (htw.L.get 1 rfl), hbn.cell, Boxed.cell (htw.L.get 2 rfl), Boxed.cell (htw.L.get 0 rfl)⟩
    refine region_wideP (S := HeldT ⟨p.bi, 0, none⟩ ⟨W.heap.size, 0, none⟩ ⟨p.bl, 0, none⟩ ⟨p.bx, 0, none⟩ (.slice (some ⟨p.gi, 0, none⟩) S.length S.length) (natC n) (.slice (some ⟨p.gl, 0, none⟩) S.length S.length) (natC s.nx)) (by kernel_rfl) (fun _ _ h => by obtain ⟨h, _⟩ := h; cases h) ?_
    (refine zl3 0 ?_ rfl ?_ ?_; rotate_left; (· (rintro w ⟨c0, c1, c2, c3⟩; go_simp; try with_reducible rfl)); (try simp only [zl1]))
    (refine zl3 1 ?_ rfl ?_ ?_; rotate_left; (· (rintro w ⟨c0, c1, c2, c3⟩; go_simp; try with_reducible rfl)); (try simp only [zl1]))
    (refine zl3 2 ?_ rfl ?_ ?_; rotate_left; (· (rintro w ⟨c0, c1, c2, c3⟩; go_simp; try with_reducible rfl)); (try simp only [zl1]))
    (refine zl3 3 ?_ rfl ?_ ?_; rotate_left; (· (rintro w ⟨c0, c1, c2, c3⟩; go_simp; try with_reducible rfl)); (try simp only [zl1]))
    (refine zl3 4 ?_ rfl ?_ ?_; rotate_left; (· (rintro w ⟨c0, c1, c2, c3⟩; go_simp; try with_reducible rfl)); (try simp only [zl1]))
    (refine zl3 5 ?_ rfl ?_ ?_; rotate_left; (· (rintro w ⟨c0, c1, c2, c3⟩; go_simp; try with_reducible rfl)); (try simp only [zl1]))
    (refine zl3 6 ?_ rfl ?_ ?_; rotate_left; (· (rintro w ⟨c0, c1, c2, c3⟩; go_simp; try with_reducible rfl)); (try simp only [zl1]))
    have hci : W1.cell? ⟨p.gi, n, none⟩ = some (intC (gD s.ix n)) := Ints.cell (htw.L.get 8 rfl) n _ (gD_get (by rw [HI.out.li]; exact hn))
    have hfi : W1.frozen? ⟨p.gi, n, none⟩ = false := frozen_of_row _ _ n _ _ (htw.L.get 8 rfl)
    have htw1 : TarW (W1.setCell ⟨p.gi, n, none⟩ (natC s.nx)) B0 p v S ⟨s.ix.set n s.nx, s.lo, s.co, s.st, s.nx, s.ct⟩ sv := htw.store HP.out rfl p.gi n _ (by simp [TP.blocks]) rfl (htw.L.int HP.out.nd 8 rfl n s.nx)
    have hfr1 : TFr p W (W1.setCell ⟨p.gi, n, none⟩ (natC s.nx)) sv sv := hfr.trans (TFr.store p.gi n _ (by simp [TP.blocks]))
    have htw2 : TarW ((W1.setCell ⟨p.gi, n, none⟩ (natC s.nx)).setCell ⟨p.gl, n, none⟩ (natC s.nx)) B0 p v S ⟨s.ix.set n s.nx, s.lo.set n s.nx, s.co, s.st, s.nx, s.ct⟩ sv := htw1.store HP.out rfl p.gl n _ (by simp [TP.blocks]) rfl (htw1.L.int HP.out.nd 9 rfl n s.nx)
    have hfr2 : TFr p W ((W1.setCell ⟨p.gi, n, none⟩ (natC s.nx)).setCell ⟨p.gl, n, none⟩ (natC s.nx)) sv sv := hfr1.trans (TFr.store p.gl n _ (by simp [TP.blocks]))
    have hbn1 : Boxed (W1.setCell ⟨p.gi, n, none⟩ (natC s.nx)) W.heap.size 3 (natC n) := (heap_setCell_other _ _ _ _ (fun e => by have e : W.heap.size = p.gi := e; have := HW.out.lt p.gi (by simp [TP.blocks]); omega)).trans hbn
    have hbn2 : Boxed ((W1.setCell ⟨p.gi, n, none⟩ (natC s.nx)).setCell ⟨p.gl, n, none⟩ (natC s.nx)) W.heap.size 3 (natC n) := (heap_setCell_other _ _ _ _ (fun e => by have e : W.heap.size = p.gl := e; have := HW.out.lt p.gl (by simp [TP.blocks]); omega)).trans hbn1
    refine wpAnyH_ready (rs := [7]) (by kernel_rfl) (by simp) (AllReadyH.cons rfl (fun K hK => ?_) AllReadyH.nil)
    go_simp
    refine hK.out _ _ ⟨Boxed.cell (htw1.L.get 1 rfl), hbn1.cell, Boxed.cell (htw1.L.get 2 rfl), Boxed.cell (htw1.L.get 0 rfl)⟩ (fun _ => ?_)
    clear hK K
    (try simp only [zl1])
    have hHT1 : HeldT ⟨p.bi, 0, none⟩ ⟨W.heap.size, 0, none⟩ ⟨p.bl, 0, none⟩ ⟨p.bx, 0, none⟩ (.slice (some ⟨p.gi, 0, none⟩) S.length S.length) (natC n) (.slice (some ⟨p.gl, 0, none⟩) S.length S.length) (natC s.nx) (W1.setCell ⟨p.gi, n, none⟩ (natC s.nx)).drew :=
      ⟨Boxed.cell (htw1.L.get 1 rfl), hbn1.cell, Boxed.cell (htw1.L.get 2 rfl), Boxed.cell (htw1.L.get 0 rfl)⟩
    (refine zl3 8 ?_ rfl ?_ ?_; rotate_left; (· (rintro w ⟨c0, c1, c2, c3⟩; go_simp; try with_reducible rfl)); (try simp only [zl1]))
    have hcl : (W1.setCell ⟨p.gi, n, none⟩ (natC s.nx)).cell? ⟨p.gl, n, none⟩ = some (intC (gD s.lo n)) := Ints.cell (htw1.L.get 9 rfl) n _ (gD_get (by rw [HI.out.ll]; exact hn))
    have hfl : (W1.setCell ⟨p.gi, n, none⟩ (natC s.nx)).frozen? ⟨p.gl, n, none⟩ = false := frozen_of_row _ _ n _ _ (htw1.L.get 9 rfl)
    refine wpAnyH_ready (rs := [9]) (by kernel_rfl) (by simp) (AllReadyH.cons rfl (fun K hK => ?_) AllReadyH.nil)
    go_simp
    refine hK.out _ _ ⟨Boxed.cell (htw2.L.get 1 rfl), hbn2.cell, Boxed.cell (htw2.L.get 2 rfl), Boxed.cell (htw2.L.get 0 rfl)⟩ (fun _ => ?_)
    clear hK K
    (try simp only [zl1])
    refine wpAnyH_done (by kernel_rfl) ?_ _
    refine NoPanic.normal ?_
    clear hHT hHT1 hfi hfl hci hcl htw hfr htw1 hfr1 hbn1 hbn
    generalize (W1.setCell ⟨p.gi, n, none⟩ (natC s.nx)).setCell ⟨p.gl, n, none⟩ (natC s.nx) = Wa at *
    have hcx : Wa.cell? ⟨p.bx, 0, none⟩ = some (natC s.nx) := Boxed.cell (htw2.L.get 0 rfl)
    have hfx := Boxed.frozen (htw2.L.get 0 rfl)
    have hcs : Wa.cell? ⟨p.bs, 0, none⟩ = some sv := Boxed.cell (htw2.L.get 3 rfl)
    have hcn := hbn2.cell
    have hwx : IntKind.i64.wrap ((s.nx : Int) + 1) = (s.nx : Int) + 1 := IntWalk.i64_in _ (by omega)
    have hex : (s.nx : Int) + 1 = ((s.nx + 1 : Nat) : Int) := by omega
    have hsa := hfr2.size
    have hmx : p.bx ∈ p.blocks := by simp [TP.blocks]
    have hms : p.bs ∈ p.blocks := by simp [TP.blocks]
    have hmg : p.bg ∈ p.blocks := by simp [TP.blocks]
    have hlx := HW.out.lt _ hmx
    have hls := HW.out.lt _ hms
    have hlg := HW.out.lt _ hmg
    have htw3 : TarW (Wa.setCell ⟨p.bx, 0, none⟩ (.int .i64 ((s.nx : Int) + 1))) B0 p v S ⟨s.ix.set n s.nx, s.lo.set n s.nx, s.co, s.st, s.nx + 1, s.ct⟩ sv := by
      rw [hex]
      exact htw2.store HP.out rfl p.bx 0 _ hmx rfl (htw2.L.box HP.out.nd 0 rfl _)
    have hfr3 : TFr p W (Wa.setCell ⟨p.bx, 0, none⟩ (.int .i64 ((s.nx : Int) + 1))) sv sv := hfr2.trans (TFr.store p.bx 0 _ hmx)
    have hbn3 : Boxed (Wa.setCell ⟨p.bx, 0, none⟩ (.int .i64 ((s.nx : Int) + 1))) W.heap.size 3 (natC n) := (heap_setCell_other _ _ _ _ (fun e => by have e : W.heap.size = p.bx := e; omega)).trans hbn2
    have hsb : (Wa.setCell ⟨p.bx, 0, none⟩ (.int .i64 ((s.nx : Int) + 1))).heap.size = Wa.heap.size := by simp
    have hbw : W.heap.size < Wa.heap.size := hbn2.lt
    have HTW4 := Lib.hid (htw3.alloc (.cells #[natC n] 3) (by omega)).drew
    have HFR4 : Hid (TFr p W ((Wa.setCell ⟨p.bx, 0, none⟩ (.int .i64 ((s.nx : Int) + 1))).alloc (.cells #[natC n] 3)).drew sv sv) := Lib.hid (hfr3.trans (TFr.alloc _)).drew
    have HBN4 : Hid (Boxed ((Wa.setCell ⟨p.bx, 0, none⟩ (.int .i64 ((s.nx : Int) + 1))).alloc (.cells #[natC n] 3)).drew W.heap.size 3 (natC n)) := Lib.hid ((Below.heap_alloc _ (.cells #[natC n] 3) _ hbn3.lt).trans hbn3)
    have HCN : Hid (((Wa.setCell ⟨p.bx, 0, none⟩ (.int .i64 ((s.nx : Int) + 1))).alloc (.cells #[natC n] 3)).cell? ⟨Wa.heap.size, 0, none⟩ = some (natC n)) := Lib.hid (by
      have := World.alloc_heap_new (Wa.setCell ⟨p.bx, 0, none⟩ (.int .i64 ((s.nx : Int) + 1))) (.cells #[natC n] 3)
      rw [hsb] at this
      exact cell_of_row _ _ _ _ _ _ this)
    have HB4 : Hid (B0 ≤ ((Wa.setCell ⟨p.bx, 0, none⟩ (.int .i64 ((s.nx : Int) + 1))).alloc (.cells #[natC n] 3)).drew.heap.size) := Lib.hid (by show B0 ≤ ((Wa.setCell ⟨p.bx, 0, none⟩ (.int .i64 ((s.nx : Int) + 1))).alloc (.cells #[natC n] 3)).heap.size; rw [World.size_alloc, hsb]; omega)
    have HSN : Hid (∀ k, sv.ownBlock = some k → k < W.heap.size) := Lib.hid fun k hk => (HW.out.os.lt k hk).2
    have hne1 : p.bs ≠ p.bx := HP.out.ne 3 0 rfl rfl (by decide)
    have hne2 : p.bx ≠ p.bs := hne1.symm
    have hne3 : W.heap.size ≠ p.bx := by omega
    have hne4 : p.bx ≠ W.heap.size := by omega
    have hne5 : p.bg ≠ p.bs := HP.out.ne 4 3 rfl rfl (by decide)
    have hne6 : p.bs ≠ p.bg := hne5.symm
    have hne7 : W.heap.size ≠ p.bs := by omega
    have hne8 : p.bs ≠ W.heap.size := by omega
    clear hex htw2 htw3 hfr2 hfr3 hbn2 hbn3
    gi_wp2_with (gi_at_builtin; go_loud (refine appIn_int _ rfl _ _ rfl B0 sv s.st.length (s.st.map natC) (by rfl) HTW4.out.os HB4.out (natC n) ⟨Wa.heap.size, 0, none⟩ 1 (by rfl) HCN.out rfl (by omega) ?_; intro g6 c6 w6 hs6 hg6 hat6; have hl6 := HTW4.out.L.grown hg6 (fun r e => HTW4.out.ne r e); have hcs6 : w6.cell? ⟨p.bs, 0, none⟩ = some sv := Boxed.cell (hl6.get 3 rfl); have hfs6 := Boxed.frozen (hl6.get 3 rfl); have hcg6 : w6.cell? ⟨p.bg, 0, none⟩ = some v := Boxed.cell (hl6.get 4 rfl); have hbn6 := Boxed.kept HBN4.out hg6 (fun e => by have := HSN.out _ e.symm; omega); have hcn6 := hbn6.cell; have HS6 := Lib.hid hs6; have HG6 := Lib.hid hg6; have HAT6 := Lib.hid hat6; have HBN6 := Lib.hid hbn6; clear hs6 hg6 hat6 hl6 hbn6))
    refine ⟨trivial, (of_in 8 v (n : Int) 0 _ hvo).mono ?_⟩
    rintro e w' ⟨rfl, rfl⟩
    gi_wp2_with fail
    have hst5 := HTW4.out.stack HP.out HB4.out (s.st ++ [n]) HG6.out (sv1 := .slice (some ⟨g6, 0, none⟩) (s.st.length + 1) c6) (by rw [List.length_append, List.map_append]; exact HS6.out) (fun k hk => by
      have e : g6 = k := by simpa [Value.ownBlock] using hk
      subst e
      rcases HAT6.out with h | h
      · exact .inl h
      · exact .inr (Nat.le_of_eq h.symm))
    have z5 : (w6.setCell ⟨p.bs, 0, none⟩ (.slice (some ⟨g6, 0, none⟩) (s.st.length + 1) c6)).heap.size = w6.heap.size := by simp
    have hB6 : W.heap.size < w6.heap.size := HBN6.out.lt
    have hb5 : Boxed (w6.setCell ⟨p.bs, 0, none⟩ (.slice (some ⟨g6, 0, none⟩) (s.st.length + 1) c6)) W.heap.size 3 (natC n) := (heap_setCell_other _ _ _ _ (fun e => by have e : W.heap.size = p.bs := e; omega)).trans HBN6.out
    have hs4 : W.heap.size < ((Wa.setCell ⟨p.bx, 0, none⟩ (.int .i64 ((s.nx : Int) + 1))).alloc (.cells #[natC n] 3)).drew.heap.size := HBN4.out.lt
    have h5 := hst5.1
    have f5 := HFR4.out.trans hst5.2
    have hso := hst5.2.own
    clear hst5
    obtain ⟨sv1, hsv1⟩ : ∃ x, x = Value.slice (some ⟨g6, 0, none⟩) (s.st.length + 1) c6 := ⟨_, rfl⟩
    rw [← hsv1] at h5 f5 hso z5 hb5 ⊢
    have HSO : Hid (∀ k, sv1.ownBlock = some k → k < w6.heap.size ∧ k ≠ W.heap.size) := Lib.hid fun k hk => ⟨by have := (h5.os.lt k hk).2; omega, by
      rcases hso k hk with e | e
      · have := HSN.out k e; omega
      · omega⟩
    clear hsv1 hso
    generalize w6.setCell ⟨p.bs, 0, none⟩ sv1 = W5 at *
    obtain ⟨Wl, hWl⟩ : ∃ Wl, Wl = ((W5.alloc (.cells #[v] 122)).alloc (.cells #[.int .i64 (n : Int)] 3)).alloc (.cells #[.int .i64 0] 3) := ⟨_, rfl⟩
    have b0 : Boxed Wl w6.heap.size 122 v := by rw [hWl, ← z5]; exact ((Boxed.new W5 _ v).alloc _).alloc _
    have b1 : Boxed Wl (w6.heap.size + 1) 3 (natC n) := by
      rw [hWl, ← z5]
      have := (Boxed.new (W5.alloc (.cells #[v] 122)) 3 (natC n)).alloc (.cells #[natC 0] 3)
      rwa [World.size_alloc] at this
    have b2 : Boxed Wl (w6.heap.size + 1 + 1) 3 (natC 0) := by
      rw [hWl, ← z5]
      have := Boxed.new ((W5.alloc (.cells #[v] 122)).alloc (.cells #[natC n] 3)) 3 (natC 0)
      rwa [World.size_alloc, World.size_alloc] at this
    have hsl3 : Wl.heap.size = w6.heap.size + 3 := by rw [hWl]; simp; omega
    have HTL : Hid (TarW Wl B0 p v S (tmark s n) sv1) := Lib.hid (by rw [hWl]; exact ((h5.alloc _ (by omega)).alloc _ (by simp; omega)).alloc _ (by simp; omega))
    have HFL : Hid (TFr p W Wl sv sv1) := Lib.hid (by rw [hWl]; exact ((f5.trans (TFr.alloc _)).trans (TFr.alloc _)).trans (TFr.alloc _))
    have HBL : Hid (Boxed Wl W.heap.size 3 (natC n)) := Lib.hid (by rw [hWl]; exact ((hb5.alloc _).alloc _).alloc _)
    rw [← hWl]
    have HBF : Hid (∀ W' sv', TFr p Wl W' sv1 sv' → Boxed W' W.heap.size 3 (natC n)) := Lib.hid fun W' sv' hf => (hf.blk W.heap.size (by omega) (fun hm => by have := HW.out.lt _ hm; omega) (fun e => (HSO.out _ e).2 rfl)).trans HBL.out
    clear hWl h5 f5 hb5 hcx hfx hcs hcn HTW4 HFR4 HBN4 HCN HS6 HG6 HAT6 HBN6 hcs6 hfs6 hcg6 hcn6
    refine wpIn_rangeFunc_ownG rfl (by decide) (gf := 141) rfl trivial (enters_of Tryz.func141 (by kernel_rfl) rfl)
      (of_stops 8 (by decide) w6.heap.size B0 v S n 0 hn (by omega) (by have := HSL.out n; omega) Wl b0 b1 b2 HTL.out.r (by omega)) kpB_t (kpB_b (by omega) (by omega)) (Below.refl _ _) (fun _ => rfl)
      (fun pre W' => ∃ svx, TarW W' B0 p v S ((valsOf pre).foldl (tstep (visitT S m) n) (tmark s n)) svx ∧ TFr p Wl W' sv1 svx) (fun _ _ _ => False) ?hI (fun _ _ _ _ _ h _ _ => h) ?h0
      (fun x => { tmps := #[natC n, .pointer (some ⟨p.bx, 0, none⟩), .pointer (some ⟨p.bi, 0, none⟩), .pointer (some ⟨p.bl, 0, none⟩), .pointer (some ⟨p.bs, 0, none⟩), .pointer (some ⟨p.bg, 0, none⟩), .pointer (some ⟨p.bv, 0, none⟩), .pointer (some ⟨p.bc, 0, none⟩), .pointer (some ⟨p.bk, 0, none⟩), .pointer (some ⟨W.heap.size, 0, none⟩), natC x.1, undef, .slice (some ⟨p.gi, 0, none⟩) S.length S.length, natC n, .slice (some ⟨p.gl, 0, none⟩) S.length S.length, natC n, natC s.nx, natC s.nx, .pointer (some ⟨p.gi, n, none⟩), .pointer (some ⟨p.gl, n, none⟩), natC s.nx, .int .i64 ((s.nx : Int) + 1), sv, natC n, .slice (some ⟨Wa.heap.size, 0, none⟩) 1 1, sv1, v, natC n, .func (.func 141) #[] #[.pointer (some ⟨w6.heap.size, 0, none⟩), .pointer (some ⟨w6.heap.size + 1, 0, none⟩), .pointer (some ⟨w6.heap.size + 1 + 1, 0, none⟩)], natC x.1, undef, undef, undef, undef, undef, undef, undef, undef, undef, undef, undef, undef, undef, undef, undef, undef, undef, undef, undef, undef, undef, undef, undef, undef, undef, undef, undef, undef, undef, undef, undef, undef, undef, undef, undef, undef, undef, undef, undef, undef, undef, undef, undef, undef, undef, undef, undef, undef, undef, undef, undef, undef, undef, undef, undef, undef, undef, undef, undef, undef, undef, undef, undef, undef, undef, undef], defers := [] }) ?assign ?body ?done ?stop
    case hI =>
      intro pre X Y row h hg hr
      obtain ⟨svx, h1, h2⟩ := h
      exact ⟨svx, h1.turn hg (fun r e => ⟨by have := (hr r e).1; omega, (hr r e).2⟩) (by have := h2.size; omega), h2.turn hg (fun r e => (hr r e).1)⟩
    case h0 => exact ⟨sv1, HTL.out, TFr.refl _ _ _⟩
    case assign =>
      intro l x W2 K hK
      simp only [encOf]
      gi_wp2
      exact hK
    case body =>
      rintro l pre x W2 ⟨sv2, hT2, hF2⟩ _
      have hxk : x.1 ∈ S.getD n [] := by
        have := x.2
        unfold ofL at this
        exact (List.mem_filter.1 this).1
      have hpre : ∀ j ∈ valsOf pre, j < S.length := by
        intro j hj
        obtain ⟨y, _, rfl⟩ := List.mem_map.1 hj
        have := y.2
        unfold ofL at this
        exact HSK.out n _ (List.mem_filter.1 this).1
      obtain ⟨k, hkx⟩ : ∃ k, k = x.1 := ⟨_, rfl⟩
      rw [← hkx] at hxk ⊢
      have hk := HSK.out n _ hxk
      have hok := tfold_ok (n := n) (v := visitT S m) (N := S.length) (f := m) (fun s k a b c d => visitT_ok HSK.out m s k a b c d) (valsOf pre) (tmark s n) hpre (by have := HZ1.out; omega) HI1.out
      have HVS : Hid ((valsOf (pre ++ [x])).foldl (tstep (visitT S m) n) (tmark s n) = tstep (visitT S m) n ((valsOf pre).foldl (tstep (visitT S m) n) (tmark s n)) k) := Lib.hid (by rw [valsOf_snoc, hkx, List.foldl_append]; rfl)
      have hzz : zeros ((valsOf pre).foldl (tstep (visitT S m) n) (tmark s n)).ix ≤ m := by have := hok.2.z; have := HZ1.out; omega
      have hi2 := hok.1
      clear hok hkx
      generalize (valsOf pre).foldl (tstep (visitT S m) n) (tmark s n) = s2 at *
      have hk0 : (0 : Int) ≤ (k : Int) := by omega
      have hk1 : (k : Int) < (S.length : Int) := by omega
      have hsz2 := hF2.size
      have hci : W2.cell? ⟨p.bi, 0, none⟩ = some (.slice (some ⟨p.gi, 0, none⟩) S.length S.length) := Boxed.cell (hT2.L.get 1 rfl)
      have hcik : W2.cell? ⟨p.gi, k, none⟩ = some (intC (gD s2.ix k)) := Ints.cell (hT2.L.get 8 rfl) k _ (gD_get (by rw [hi2.li]; exact hk))
      have hcv : W2.cell? ⟨p.bv, 0, none⟩ = some (.func (.func 139) #[] #[.pointer (some ⟨p.bx, 0, none⟩), .pointer (some ⟨p.bi, 0, none⟩), .pointer (some ⟨p.bl, 0, none⟩), .pointer (some ⟨p.bs, 0, none⟩), .pointer (some ⟨p.bg, 0, none⟩), .pointer (some ⟨p.bv, 0, none⟩), .pointer (some ⟨p.bc, 0, none⟩), .pointer (some ⟨p.bk, 0, none⟩)]) := Boxed.cell (hT2.L.get 5 rfl)
      have hcc : W2.cell? ⟨p.bc, 0, none⟩ = some (.slice (some ⟨p.gc, 0, none⟩) S.length S.length) := Boxed.cell (hT2.L.get 6 rfl)
      have hcck : W2.cell? ⟨p.gc, k, none⟩ = some (intC (gD s2.co k)) := Ints.cell (hT2.L.get 10 rfl) k _ (gD_get (by rw [hi2.lc]; exact hk))
      have HT2 := Lib.hid hT2
      have HF2 := Lib.hid hF2
      have HI2 := Lib.hid hi2
      have HSV2 : Hid (∀ j, sv2.ownBlock = some j → j < w6.heap.size ∨ Wl.heap.size ≤ j) := Lib.hid fun j hj => by
        rcases HF2.out.own j hj with e | e
        · exact .inl (HSO.out j e).1
        · exact .inr e
      clear hT2 hF2 hi2
      by_cases hz : gD s2.ix k = 0
      · have hcall := IH.out s2 sv2 k W2 hzz HI2.out hk hz (by omega) HT2.out
        have hi3 := visitT_ok HSK.out m s2 k hzz HI2.out hk hz
        have HTS : Hid (tstep (visitT S m) n s2 k = tlow (visitT S m s2 k) n (gD (visitT S m s2 k).lo k)) := Lib.hid (by unfold tstep; rw [if_pos hz])
        rw [hz] at hcik
        have HCALL := Lib.hid hcall
        clear hcall
        gi_wp2_with fail
        refine ⟨trivial, ?_⟩
        refine (CallsIn.inRound l (callsIn_wide.2 HCALL.out)).mono ?_
        rintro e W3 ⟨rfl, sv3, hT3, hF3⟩
        generalize visitT S m s2 k = s3 at *
        have hF13 := HF2.out.trans hF3
        have hbn3 := HBF.out _ _ hF13
        have hcl : W3.cell? ⟨p.bl, 0, none⟩ = some (.slice (some ⟨p.gl, 0, none⟩) S.length S.length) := Boxed.cell (hT3.L.get 2 rfl)
        have hcln : W3.cell? ⟨p.gl, n, none⟩ = some (intC (gD s3.lo n)) := Ints.cell (hT3.L.get 9 rfl) n _ (gD_get (by rw [hi3.1.ll]; exact hn))
        have hclk : W3.cell? ⟨p.gl, k, none⟩ = some (intC (gD s3.lo k)) := Ints.cell (hT3.L.get 9 rfl) k _ (gD_get (by rw [hi3.1.ll]; exact hk))
        have hfln := frozen_of_row _ _ n _ _ (hT3.L.get 9 rfl)
        obtain ⟨a3, ha3⟩ : ∃ a3, a3 = gD s3.lo n := ⟨_, rfl⟩
        obtain ⟨b3, hb3⟩ : ∃ b3, b3 = gD s3.lo k := ⟨_, rfl⟩
        rw [← ha3] at hcln
        rw [← hb3] at hclk HTS
        have hcn3 := hbn3.cell
        have HT3 := Lib.hid hT3
        have HF3 := Lib.hid hF3
        have HF13 := Lib.hid hF13
        have HBN3 := Lib.hid hbn3
        have HA3 := Lib.hid ha3
        clear hT3 hF3 hF13 hbn3 ha3 hb3
        gi_wp2_with fail
        refine region_round_tail 12 (by kernel_rfl) (by kernel_rfl) (fun _ _ h => h) (by kernel_rfl) ?_
        simp only [List.take_succ_cons, List.take_zero, List.drop_succ_cons, List.drop_zero]
        refine Sealed.out ?_
        iterate 12 (refine seal_yes (by rfl) (fun K hK => ?_); go_simp; refine hK _ ?_; clear hK K)
        refine seal_nil ?_
        go_wp2_with fail
        gi_wp2_with fail
        have hT4 : TarW (W3.setCell ⟨p.gl, n, none⟩ (.int .i64 (min a3 b3))) B0 p v S (tlow s3 n b3) sv3 := by
          rw [HA3.out]
          exact HT3.out.store HP.out rfl p.gl n _ (by simp [TP.blocks]) rfl (HT3.out.L.int HP.out.nd 9 rfl n _)
        have hF4 : TFr p W2 (W3.setCell ⟨p.gl, n, none⟩ (.int .i64 (min a3 b3))).drew sv2 sv3 := (HF3.out.trans (TFr.store p.gl n _ (by simp [TP.blocks]))).drew
        exact ⟨(hF4.others HT2.out).from _, ⟨hF4.blk _ (by omega) (fun hm => by have := HW.out.lt _ hm; omega) (fun e => by have := HSV2.out _ e; omega), hF4.below HP.out (by omega) HT2.out⟩, sv3, by rw [HVS.out, HTS.out]; exact hT4.drew, HF2.out.trans hF4⟩
      · have hzd : decide (gD s2.ix k = 0) = false := decide_eq_false hz
        obtain ⟨xi, hxi⟩ : ∃ xi, xi = gD s2.ix k := ⟨_, rfl⟩
        obtain ⟨ck, hck⟩ : ∃ ck, ck = gD s2.co k := ⟨_, rfl⟩
        have HXI := Lib.hid hxi
        have HCK := Lib.hid hck
        rw [← hxi] at hcik hzd hz
        rw [← hck] at hcck
        clear hxi hck
        by_cases hc : ck < 0
        · have hcd : decide (ck < 0) = true := decide_eq_true hc
          have HTS : Hid (tstep (visitT S m) n s2 k = tlow s2 n xi) := Lib.hid (by unfold tstep; rw [← HXI.out, ← HCK.out, if_neg hz, if_pos hc])
          have hcl : W2.cell? ⟨p.bl, 0, none⟩ = some (.slice (some ⟨p.gl, 0, none⟩) S.length S.length) := Boxed.cell (HT2.out.L.get 2 rfl)
          have hcln : W2.cell? ⟨p.gl, n, none⟩ = some (intC (gD s2.lo n)) := Ints.cell (HT2.out.L.get 9 rfl) n _ (gD_get (by rw [HI2.out.ll]; exact hn))
          have hfln := frozen_of_row _ _ n _ _ (HT2.out.L.get 9 rfl)
          have hcn3 := (HBF.out _ _ HF2.out).cell
          obtain ⟨a3, ha3⟩ : ∃ a3, a3 = gD s2.lo n := ⟨_, rfl⟩
          rw [← ha3] at hcln
          have HA3 := Lib.hid ha3
          clear ha3
          gi_wp2_with fail
          refine region_round_tail 12 (by kernel_rfl) (by kernel_rfl) (fun _ _ h => h) (by kernel_rfl) ?_
          simp only [List.take_succ_cons, List.take_zero, List.drop_succ_cons, List.drop_zero]
          refine Sealed.out ?_
          iterate 12 (refine seal_yes (by rfl) (fun K hK => ?_); go_simp; refine hK _ ?_; clear hK K)
          refine seal_nil ?_
          go_wp2_with fail
          gi_wp2_with fail
          have hT4 : TarW (W2.setCell ⟨p.gl, n, none⟩ (.int .i64 (min a3 xi))) B0 p v S (tlow s2 n xi) sv2 := by
            rw [HA3.out]
            exact HT2.out.store HP.out rfl p.gl n _ (by simp [TP.blocks]) rfl (HT2.out.L.int HP.out.nd 9 rfl n _)
          have hF4 : TFr p W2 (W2.setCell ⟨p.gl, n, none⟩ (.int .i64 (min a3 xi))).drew sv2 sv2 := (TFr.store p.gl n _ (by simp [TP.blocks])).drew
          exact ⟨(hF4.others HT2.out).from _, ⟨hF4.blk _ (by omega) (fun hm => by have := HW.out.lt _ hm; omega) (fun e => by have := HSV2.out _ e; omega), hF4.below HP.out (by omega) HT2.out⟩, sv2, by rw [HVS.out, HTS.out]; exact hT4.drew, HF2.out.trans hF4⟩
        · have hcd : decide (ck < 0) = false := decide_eq_false hc
          have HTS : Hid (tstep (visitT S m) n s2 k = s2) := Lib.hid (by unfold tstep; rw [← HXI.out, ← HCK.out, if_neg hz, if_neg hc])
          gi_wp2_with fail
          exact ⟨(KeepsOthers.refl _).from _, ⟨rfl, Below.refl _ _⟩, sv2, by rw [HVS.out, HTS.out]; exact HT2.out, HF2.out⟩
    case done =>
      rintro D xs W2 hD hxs ⟨sv2, hT2, hF2⟩ hK
      have hfl : ofL S n 0 = S.getD n [] := by unfold ofL; rw [List.filter_eq_self.2 (by simp)]
      rw [hxs, hfl] at hT2
      have hok := tfold_ok (n := n) (v := visitT S m) (N := S.length) (f := m) (fun s k a b c d => visitT_ok HSK.out m s k a b c d) (S.getD n []) (tmark s n) (HSK.out n) (by have := HZ1.out; omega) HI1.out
      have HVT : Hid (visitT S (m + 1) s n = tfin ((S.getD n []).foldl (tstep (visitT S m) n) (tmark s n)) n) := Lib.hid rfl
      have hk2 := hok.2.k
      have hz2 := hok.2.z
      have hp2 := hok.2.p
      have hi2 := hok.1
      clear hok
      generalize (S.getD n []).foldl (tstep (visitT S m) n) (tmark s n) = s2 at *
      have hnr : n ∈ s2.st := by
        obtain ⟨zs, hzs⟩ := hp2
        rw [hzs]
        simp [tmark]
      have hnx2 : s2.nx ≤ 1000001 := by have := hi2.nz; omega
      have hct2 := hi2.ct
      have hsl2 := hi2.sl
      have hsz2 := hF2.size
      have hbn2 : Boxed W2 W.heap.size 3 (natC n) := (hF2.blk W.heap.size (by omega) (fun hm => by have := HW.out.lt _ hm; omega) (fun e => (HSO.out _ e).2 rfl)).trans HBL.out
      have HMK : Hid (Marks W.heap.size [{ target := .collected D, args := #[] }] W2.drew) := Lib.hid (Marks.push (B := W.heap.size) (ds := []) (W := W2) (W0 := Wl) trivial trivial (by omega) (Nat.le_refl _) hD hK).drew
      obtain ⟨lon, hlon⟩ : ∃ x, x = gD s2.lo n := ⟨_, rfl⟩
      obtain ⟨ixn, hixn⟩ : ∃ x, x = gD s2.ix n := ⟨_, rfl⟩
      have hHV : HeldV ⟨p.bl, 0, none⟩ ⟨W.heap.size, 0, none⟩ ⟨p.gl, n, none⟩ ⟨p.bi, 0, none⟩ ⟨p.gi, n, none⟩ (.slice (some ⟨p.gl, 0, none⟩) S.length S.length) (natC n) (intC lon) (.slice (some ⟨p.gi, 0, none⟩) S.length S.length) (intC ixn) W2.drew :=
        ⟨Boxed.cell (hT2.L.get 2 rfl), hbn2.cell, by rw [hlon]; exact Ints.cell (hT2.L.get 9 rfl) n _ (gD_get (by rw [hi2.ll]; exact hn)), Boxed.cell (hT2.L.get 1 rfl), by rw [hixn]; exact Ints.cell (hT2.L.get 8 rfl) n _ (gD_get (by rw [hi2.li]; exact hn))⟩
      have HLON := Lib.hid hlon
      have HIXN := Lib.hid hixn
      have HT2 := Lib.hid hT2
      have HF2 := Lib.hid hF2
      have HI2 := Lib.hid hi2
      have HBN2 := Lib.hid hbn2
      have HNR := Lib.hid hnr
      clear hlon hixn hT2 hF2 hi2 hbn2 hnr hp2 hfl
      gi_wp2_with fail
      refine region_wideP (S := HeldV ⟨p.bl, 0, none⟩ ⟨W.heap.size, 0, none⟩ ⟨p.gl, n, none⟩ ⟨p.bi, 0, none⟩ ⟨p.gi, n, none⟩ (.slice (some ⟨p.gl, 0, none⟩) S.length S.length) (natC n) (intC lon) (.slice (some ⟨p.gi, 0, none⟩) S.length S.length) (intC ixn)) (by kernel_rfl) (fun _ _ h => by obtain ⟨h, _⟩ := h; cases h) ?_
      (refine zl3 0 ?_ rfl ?_ ?_; rotate_left; (· (rintro w ⟨c0, c1, c2, c3, c4⟩; go_simp; try with_reducible rfl)); (try simp only [zl1]))
      (refine zl3 1 ?_ rfl ?_ ?_; rotate_left; (· (rintro w ⟨c0, c1, c2, c3, c4⟩; go_simp; try with_reducible rfl)); (try simp only [zl1]))
      (refine zl3 2 ?_ rfl ?_ ?_; rotate_left; (· (rintro w ⟨c0, c1, c2, c3, c4⟩; go_simp; try with_reducible rfl)); (try simp only [zl1]))
      (refine zl3 3 ?_ rfl ?_ ?_; rotate_left; (· (rintro w ⟨c0, c1, c2, c3, c4⟩; go_simp; try with_reducible rfl)); (try simp only [zl1]))
      (refine zl3 4 ?_ rfl ?_ ?_; rotate_left; (· (rintro w ⟨c0, c1, c2, c3, c4⟩; go_simp; try with_reducible rfl)); (try simp only [zl1]))
      (refine zl3 5 ?_ rfl ?_ ?_; rotate_left; (· (rintro w ⟨c0, c1, c2, c3, c4⟩; go_simp; try with_reducible rfl)); (try simp only [zl1]))
      (refine zl3 6 ?_ rfl ?_ ?_; rotate_left; (· (rintro w ⟨c0, c1, c2, c3, c4⟩; go_simp; try with_reducible rfl)); (try simp only [zl1]))
      (refine zl3 7 ?_ rfl ?_ ?_; rotate_left; (· (rintro w ⟨c0, c1, c2, c3, c4⟩; go_simp; try with_reducible rfl)); (try simp only [zl1]))
      (refine zl3 8 ?_ rfl ?_ ?_; rotate_left; (· (rintro w ⟨c0, c1, c2, c3, c4⟩; go_simp; try with_reducible rfl)); (try simp only [zl1]))
      refine wpAnyH_done (by kernel_rfl) ?_ _
      refine NoPanic.normal ?_
      clear hHV
      by_cases hlt : lon < ixn
      · have hltd : decide (lon < ixn) = true := decide_eq_true hlt
        gi_wp2_with fail
        refine leave_marks HMK.out (Shut.refl _ _) fun W' hs => ⟨_, results_none rfl _ _ _, rfl, sv2, ?_, ?_⟩
        · rw [HVT.out]
          unfold tfin
          rw [← HLON.out, ← HIXN.out, if_pos hlt]
          exact HT2.out.drew.shut hs hB
        · exact (HFL.out.trans HF2.out).drew.shut hs
      · have hltd : decide (lon < ixn) = false := decide_eq_false hlt
        have HPOP : Hid (visitT S (m + 1) s n = tpop s2 n) := Lib.hid (by rw [HVT.out]; unfold tfin; rw [← HLON.out, ← HIXN.out, if_neg hlt])
        gi_wp2_with fail
        refine wpIn_loop_gas (fun j a' W' => ∃ u10 u11 u12 u13 u14 u15 u16 u17 u18 u19 u20 u21 u22 u23 u24 u25 u26 u27 u28 u29 u30 u31 u32 u33 u34 u35 u36 u37 u38 u39 u40 u41 u42 u43 u44 u45 u46 u47 u48 u49 u50 u51 u52 u53 u54 u55 u56 u57 u58 u59 u60 u61 u62 u63 u64 u65 u66 u67 u68 u69 u70 u71 u72 u73 u74 u75 u76 u77 u78 u79 u80 u81 u82 u83 u84 u85 u86 u87 u88 u89 u90 u91 u92 u93 u94 u95 : Value, ∃ (r : List Nat) (co : List Int) (svx : Value), (j = r.length ∧ (n ∈ r ∧ (∀ i ∈ r, i < S.length) ∧ r.length ≤ 1000000 ∧ co.length = S.length) ∧ tpopL s2.ct n r co = tpopL s2.ct n s2.st.reverse s2.co ∧ TarW W' B0 p v S ⟨s2.ix, s2.lo, co, r.reverse, s2.nx, s2.ct⟩ svx ∧ TFr p Wl W' sv1 svx ∧ Marks W.heap.size [{ target := .collected D, args := #[] }] W') ∧ a' = { tmps := #[natC n, .pointer (some ⟨p.bx, 0, none⟩), .pointer (some ⟨p.bi, 0, none⟩), .pointer (some ⟨p.bl, 0, none⟩), .pointer (some ⟨p.bs, 0, none⟩), .pointer (some ⟨p.bg, 0, none⟩), .pointer (some ⟨p.bv, 0, none⟩), .pointer (some ⟨p.bc, 0, none⟩), .pointer (some ⟨p.bk, 0, none⟩), .pointer (some ⟨W.heap.size, 0, none⟩), u10, u11, u12, u13, u14, u15, u16, u17, u18, u19, u20, u21, u22, u23, u24, u25, u26, u27, u28, u29, u30, u31, u32, u33, u34, u35, u36, u37, u38, u39, u40, u41, u42, u43, u44, u45, u46, u47, u48, u49, u50, u51, u52, u53, u54, u55, u56, u57, u58, u59, u60, u61, u62, u63, u64, u65, u66, u67, u68, u69, u70, u71, u72, u73, u74, u75, u76, u77, u78, u79, u80, u81, u82, u83, u84, u85, u86, u87, u88, u89, u90, u91, u92, u93, u94, u95], defers := [{ target := .collected D, args := #[] }] }) s2.st.length ?start ?round
        case start =>
          repeat apply Exists.intro
          refine ⟨⟨by rw [List.length_reverse], ⟨List.mem_reverse.2 HNR.out, fun i hi => HI2.out.sk i (List.mem_reverse.1 hi), by rw [List.length_reverse]; omega, HI2.out.lc⟩, rfl, by rw [List.reverse_reverse]; exact HT2.out.drew, HF2.out.drew, HMK.out⟩, rfl⟩
        case round =>
          intro j a' W3 h
          obtain ⟨u10, h⟩ := h
          obtain ⟨u11, h⟩ := h
          obtain ⟨u12, h⟩ := h
          obtain ⟨u13, h⟩ := h
          obtain ⟨u14, h⟩ := h
          obtain ⟨u15, h⟩ := h
          obtain ⟨u16, h⟩ := h
          obtain ⟨u17, h⟩ := h
          obtain ⟨u18, h⟩ := h
          obtain ⟨u19, h⟩ := h
          obtain ⟨u20, h⟩ := h
          obtain ⟨u21, h⟩ := h
          obtain ⟨u22, h⟩ := h
          obtain ⟨u23, h⟩ := h
          obtain ⟨u24, h⟩ := h
          obtain ⟨u25, h⟩ := h
          obtain ⟨u26, h⟩ := h
          obtain ⟨u27, h⟩ := h
          obtain ⟨u28, h⟩ := h
          obtain ⟨u29, h⟩ := h
          obtain ⟨u30, h⟩ := h
          obtain ⟨u31, h⟩ := h
          obtain ⟨u32, h⟩ := h
          obtain ⟨u33, h⟩ := h
          obtain ⟨u34, h⟩ := h
          obtain ⟨u35, h⟩ := h
          obtain ⟨u36, h⟩ := h
          obtain ⟨u37, h⟩ := h
          obtain ⟨u38, h⟩ := h
          obtain ⟨u39, h⟩ := h
          obtain ⟨u40, h⟩ := h
          obtain ⟨u41, h⟩ := h
          obtain ⟨u42, h⟩ := h
          obtain ⟨u43, h⟩ := h
          obtain ⟨u44, h⟩ := h
          obtain ⟨u45, h⟩ := h
          obtain ⟨u46, h⟩ := h
          obtain ⟨u47, h⟩ := h
          obtain ⟨u48, h⟩ := h
          obtain ⟨u49, h⟩ := h
          obtain ⟨u50, h⟩ := h
          obtain ⟨u51, h⟩ := h
          obtain ⟨u52, h⟩ := h
          obtain ⟨u53, h⟩ := h
          obtain ⟨u54, h⟩ := h
          obtain ⟨u55, h⟩ := h
          obtain ⟨u56, h⟩ := h
          obtain ⟨u57, h⟩ := h
          obtain ⟨u58, h⟩ := h
          obtain ⟨u59, h⟩ := h
          obtain ⟨u60, h⟩ := h
          obtain ⟨u61, h⟩ := h
          obtain ⟨u62, h⟩ := h
          obtain ⟨u63, h⟩ := h
          obtain ⟨u64, h⟩ := h
          obtain ⟨u65, h⟩ := h
          obtain ⟨u66, h⟩ := h
          obtain ⟨u67, h⟩ := h
          obtain ⟨u68, h⟩ := h
          obtain ⟨u69, h⟩ := h
          obtain ⟨u70, h⟩ := h
          obtain ⟨u71, h⟩ := h
          obtain ⟨u72, h⟩ := h
          obtain ⟨u73, h⟩ := h
          obtain ⟨u74, h⟩ := h
          obtain ⟨u75, h⟩ := h
          obtain ⟨u76, h⟩ := h
          obtain ⟨u77, h⟩ := h
          obtain ⟨u78, h⟩ := h
          obtain ⟨u79, h⟩ := h
          obtain ⟨u80, h⟩ := h
          obtain ⟨u81, h⟩ := h
          obtain ⟨u82, h⟩ := h
          obtain ⟨u83, h⟩ := h
          obtain ⟨u84, h⟩ := h
          obtain ⟨u85, h⟩ := h
          obtain ⟨u86, h⟩ := h
          obtain ⟨u87, h⟩ := h
          obtain ⟨u88, h⟩ := h
          obtain ⟨u89, h⟩ := h
          obtain ⟨u90, h⟩ := h
          obtain ⟨u91, h⟩ := h
          obtain ⟨u92, h⟩ := h
          obtain ⟨u93, h⟩ := h
          obtain ⟨u94, h⟩ := h
          obtain ⟨u95, h⟩ := h
          obtain ⟨r, co, svx, ⟨hj, ⟨hnr, hri, hrl, hcl⟩, hpop, hT, hF, hM⟩, rfl⟩ := h
          cases r with
          | nil => simp at hnr
          | cons k r =>
            have hsz3 := hF.size
            have hk := hri k (by simp)
            have hbn3 := HBF.out _ _ hF
            simp only [List.length_cons] at hj hrl
            have hos := hT.os
            simp only [List.reverse_cons, List.length_append, List.length_reverse, List.length_cons, List.length_nil, Nat.zero_add, List.map_append, List.map_cons, List.map_nil] at hos
            obtain ⟨g3, c3, rfl, hg3a, hg3b, hg3c⟩ := own_shape hos (by omega)
            have htop : W3.cell? ⟨g3, r.length, none⟩ = some (natC k) := own_cell hos r.length _ (by rw [List.getElem?_append_right (by simp)]; simp)
            have hstk := hT.stack HP.out (by omega) r.reverse (World.grownBy.refl _ _) (sv1 := .slice (some ⟨g3, 0, none⟩) r.length c3) (by rw [List.length_reverse]; exact own_pop hos) (fun k hk => .inl (by simpa [Value.ownBlock] using hk))
            have hcs : W3.cell? ⟨p.bs, 0, none⟩ = some (.slice (some ⟨g3, 0, none⟩) (r.length + 1) c3) := Boxed.cell (hT.L.get 3 rfl)
            have hfs := Boxed.frozen (hT.L.get 3 rfl)
            have hcc : W3.cell? ⟨p.bc, 0, none⟩ = some (.slice (some ⟨p.gc, 0, none⟩) S.length S.length) := Boxed.cell (hT.L.get 6 rfl)
            have hck : W3.cell? ⟨p.bk, 0, none⟩ = some (natC s2.ct) := Boxed.cell (hT.L.get 7 rfl)
            have hfk := Boxed.frozen (hT.L.get 7 rfl)
            have hcgk : W3.cell? ⟨p.gc, k, none⟩ = some (intC (gD co k)) := Ints.cell (hT.L.get 10 rfl) k _ (gD_get (by rw [hcl]; exact hk))
            have hfgk := frozen_of_row _ _ k _ _ (hT.L.get 10 rfl)
            have hcn3 := hbn3.cell
            have hT5 := hstk.1.store HP.out rfl p.gc k (natC s2.ct) (by simp [TP.blocks]) rfl (s' := ⟨s2.ix, s2.lo, co.set k s2.ct, r.reverse, s2.nx, s2.ct⟩) (hstk.1.L.int HP.out.nd 10 rfl k s2.ct)
            have hF5 := hstk.2.trans (TFr.store p.gc k (natC s2.ct) (by simp [TP.blocks]))
            have hM5 := hM.keep (NoCells.of_keeps ((hF5.others hT).from W.heap.size))
            have hF15 := hF.trans hF5
            have hk0 : (0 : Int) ≤ (k : Int) := by omega
            have hk1 : (k : Int) < (S.length : Int) := by omega
            have hr0 : (0 : Int) ≤ (r.length : Int) := by omega
            have hr1 : (r.length : Int) < (r.length : Int) + 1 := by omega
            have hr2 : (r.length : Int) ≤ (c3 : Int) := by omega
            have hwl : IntKind.i64.wrap ((r.length : Int) + 1 - 1) = (r.length : Int) := by rw [Int.add_sub_cancel]; exact IntWalk.i64_in _ (by omega)
            have hwc : IntKind.i64.wrap ((s2.ct : Int) + 1) = (s2.ct : Int) + 1 := IntWalk.i64_in _ (by omega)
            have d1 : p.bc ≠ p.bs := HP.out.ne 6 3 rfl rfl (by decide)
            have d2 : p.bk ≠ p.bs := HP.out.ne 7 3 rfl rfl (by decide)
            have d3 : p.gc ≠ p.bs := HP.out.ne 10 3 rfl rfl (by decide)
            have d4 : p.bk ≠ p.gc := HP.out.ne 7 10 rfl rfl (by decide)
            have d5 := d1.symm
            have d6 := d2.symm
            have d7 := d3.symm
            have d8 := d4.symm
            have hgc := HW.out.lt p.gc (by simp [TP.blocks])
            have d9 : W.heap.size ≠ p.gc := by omega
            have d10 : p.gc ≠ W.heap.size := by omega
            have HPO := Lib.hid hpop
            have HT5 := Lib.hid hT5
            have HF15 := Lib.hid hF15
            have HM5 := Lib.hid hM5
            have HNR := Lib.hid hnr
            have HRI := Lib.hid hri
            clear hpop hT hF hM hstk hT5 hF5 hM5 hF15 hos hbn3 hnr hri
            by_cases hkn : (k : Int) = (n : Int)
            · have ekn : k = n := by omega
              subst k
              gi_wp2_with fail
              have hP : tpopL s2.ct n s2.st.reverse s2.co = (r, co.set n s2.ct) := by
                rw [← HPO.out]
                show (if n = n then (r, co.set n s2.ct) else tpopL s2.ct n r (co.set n s2.ct)) = _
                rw [if_pos rfl]
              have hT6 : TarW (((W3.setCell ⟨p.bs, 0, none⟩ (.slice (some ⟨g3, 0, none⟩) r.length c3)).setCell ⟨p.gc, n, none⟩ (natC s2.ct)).setCell ⟨p.bk, 0, none⟩ (.int .i64 ((s2.ct : Int) + 1))) B0 p v S (tpop s2 n) (.slice (some ⟨g3, 0, none⟩) r.length c3) := by
                rw [show (s2.ct : Int) + 1 = ((s2.ct + 1 : Nat) : Int) by omega]
                unfold tpop
                rw [hP]
                exact HT5.out.store HP.out rfl p.bk 0 _ (by simp [TP.blocks]) rfl (HT5.out.L.box HP.out.nd 7 rfl _)
              have hF6 : TFr p Wl (((W3.setCell ⟨p.bs, 0, none⟩ (.slice (some ⟨g3, 0, none⟩) r.length c3)).setCell ⟨p.gc, n, none⟩ (natC s2.ct)).setCell ⟨p.bk, 0, none⟩ (.int .i64 ((s2.ct : Int) + 1))) sv1 (.slice (some ⟨g3, 0, none⟩) r.length c3) := HF15.out.trans (TFr.store p.bk 0 _ (by simp [TP.blocks]))
              have hM6 := HM5.out.keep (NoCells.of_keeps (((TFr.store (sv := .slice (some ⟨g3, 0, none⟩) r.length c3) p.bk 0 (.int .i64 ((s2.ct : Int) + 1)) (by simp [TP.blocks])).others HT5.out).from W.heap.size))
              refine leave_marks hM6 (Shut.refl _ _) fun W' hs => ⟨_, results_none rfl _ _ _, rfl, .slice (some ⟨g3, 0, none⟩) r.length c3, ?_, ?_⟩
              · rw [HPOP.out]
                exact hT6.shut hs hB
              · exact (HFL.out.trans hF6).shut hs
            · have hknd : decide ((k : Int) = (n : Int)) = false := decide_eq_false hkn
              gi_wp2_with fail
              have hkn2 : k ≠ n := by omega
              refine ⟨r.length, by omega, ?_⟩
              repeat apply Exists.intro
              refine ⟨⟨rfl, ⟨(List.mem_cons.1 HNR.out).resolve_left (Ne.symm hkn2), fun i hi => HRI.out i (List.mem_cons_of_mem _ hi), by omega, by rw [List.length_set]; exact hcl⟩, ?_, HT5.out, HF15.out, HM5.out⟩, ?_⟩
              rotate_left
              · rfl
              · rw [← HPO.out]
                show _ = (if k = n then (r, co.set k s2.ct) else tpopL s2.ct n r (co.set k s2.ct))
                rw [if_neg hkn2]
    case stop =>
      rintro D c pre W2 hD _ h _
      exact h.elim
end Go.Proofs.YtnjiibiafhnmgaaGreatDoor
