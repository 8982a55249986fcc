/- The statement LexerReturns holds: at every string and every list of kinds the law returns true, and its arguments read as before. -/
import Derived.Test.YtmlfoffahfbalaaDoorCards
import Derived.Test.YtmlfoffahfbalaaDoorTie
import Derived.WalkKit
import Derived.ProofKit
import Derived.OpenShut
import Derived.Deep.DeepHandedRow
import Derived.Shelf.Vars
import Derived.Lay
import Derived.Test.YtmlfoffahfbalaaDoorReturns
import Derived.Carry
namespace Go.Proofs.YtmlfoffahfbalaaDoor.fnReturns
open Go.ChangeShapes Go.WideShapes Go.ChangeAt Go.RowKit
open Go.ChangeMaps (open_string shut_string)

theorem own : ownKnob Tryd.prog.godebug = none := by kernel_rfl
/-- the library's variable reads as some number, in every world that fits. -/
theorem maxOk {W : World} (h : W.ShapedOpen Tryd.prog) : MaxOk W :=
  cell_of_shapedOpen_int (g := 0) (t := 3) (zero := #[.int .i64 0]) h (of_decide_eq_true (by kernel_rfl)) (by kernel_rfl) rfl (by kernel_rfl) (by kernel_rfl) Tryd.underlying3

/-- an input that fits. -/
theorem witness (os : Os) {H : Type} (enc : TypeId × Value → H) :
    (OpenSpec.ofChange Rows.lexerReturnsSpec).preRow enc Tryd.prog Tryd.f7 Rows.lexerReturnsRow.domain false Rows.lexerReturnsRow.laid ((World.laidAll Tryd.prog os Rows.lexerReturnsRow.laid).forCall (fun _ _ => 0) ⟨#[], #[.string ⟨#[]⟩, .slice none 0 0], []⟩).memory #[.string ⟨#[]⟩, .slice none 0 0] := by
  have hw : (DataW.whole enc Tryd.prog ((World.laidAll Tryd.prog os Rows.lexerReturnsRow.laid).forCall (fun _ _ => 0) ⟨#[], #[.string ⟨#[]⟩, .slice none 0 0], []⟩).memory Tryd.f7.params.toList Rows.lexerReturnsSpec.vars false #[Value.string ⟨#[]⟩, .slice none 0 0].toList 8).map (fun x => (x.1, x.2.1)) =
      some ([.lit (.string []), .nil], []) := by kernel_rfl
  obtain ⟨⟨x1, x2, x3⟩, hx, hx1⟩ := Option.map_eq_some_iff.1 hw
  simp only [Prod.mk.injEq] at hx1
  obtain ⟨rfl, rfl⟩ := hx1
  exact OpenSpec.preRow_of_cond 8 hx (by kernel_rfl) (fun k hk => by cases hk) (by kernel_rfl) (by rw [MakeChecks.laidMetH_plain _ _ _ (by kernel_rfl)]; exact laidMet_laidAll _ (by kernel_rfl) (by kernel_rfl))

set_option maxRecDepth 100000 in
theorem lifted (os : Os) (started : os.Started) (H : Type) (enc : TypeId × Value → H) (F : Stop.Interp) :
    ReturnsInHanded {} Tryd.checked os 7 .any ((OpenSpec.ofChange Rows.lexerReturnsSpec).preRow enc Tryd.prog Tryd.f7 Rows.lexerReturnsRow.domain false Rows.lexerReturnsRow.laid) (((OpenSpec.ofChange Rows.lexerReturnsSpec).at F).post enc Tryd.prog Tryd.f7 false true false false) := by
  refine returnsInHanded_of_row (C := Tryd.checked) (s := OpenSpec.ofChange Rows.lexerReturnsSpec) own started (by kernel_rfl) Tryd.func7
    (witness_row_at (enc := enc) (C := Tryd.checked) false (World.laidAll Tryd.prog os Rows.lexerReturnsRow.laid) #[.string ⟨#[]⟩, .slice none 0 0] (World.laidAll_os _ _ _) (by kernel_rfl) (by kernel_rfl) (by kernel_rfl)
      (witness os enc)) ?_
  intro W base args ds gs before hval0 hW _ _ _ _ hsh _
  have hm := maxOk hsh
  have hval : ∀ (j : Nat) t v, Tryd.f7.params[j]? = some t → args[j]? = some v → Value.okWide Tryd.prog W .any base t v := hval0
  have hW' := hW
  obtain ⟨p, q, hA0, hV, rfl, _, _⟩ := hW
  have hA : DataW.TrodAll enc Tryd.prog W 0 (fun _ => true) true Tryd.f7.params.toList args.toList ds p := hA0
  rw [Tryd.params7] at hA hval
  obtain ⟨v0, v1, d0, d1, p0, p1, rfl, rfl, rfl, h0, h1⟩ := trodAll_two hA
  obtain ⟨rfl, rfl⟩ := trodVars_none hV
  obtain ⟨s, rfl, rfl, rfl, ws⟩ := open_string Tryd.underlying9 (hval 0 9 v0 rfl rfl) h0
  obtain ⟨ka, kl, kc, rfl⟩ := okWide_slice Tryd.underlying37 (hval 1 37 v1 rfl rfl)
  have hlt : ∀ x ∈ p1, x.block < W.heap.size := fun x hx => by simpa using hW'.lt x (by simpa using hx)
  obtain ⟨ks, hks⟩ : ∃ ks : List UInt8, (ks = [] ∧ ∃ a c, Value.slice ka kl kc = .slice a 0 c) ∨ ∃ b off cap, Value.slice ka kl kc = .slice (some ⟨b, off, none⟩) ks.length cap ∧ b < W.heap.size ∧ ∀ (i : Nat) (h : i < ks.length), W.cell? ⟨b, off + i, none⟩ = some (.int .u8 (ks[i]).toNat) := by
    obtain ⟨n, hn⟩ := h1
    rcases open_ints Tryd.underlying37 Tryd.underlying5 (by kernel_rfl) hn with ⟨h2, _⟩ | ⟨a, len, cap, zs, h2, _, h3, h4, h5, h6, h7, h8⟩
    · exact ⟨[], .inl ⟨rfl, none, 0, (List.cons.inj (show [Value.slice ka kl kc] = [Value.slice none 0 0] from h2)).1⟩⟩
    · cases (List.cons.inj (show [Value.slice ka kl kc] = [Value.slice (some a) len cap] from h2)).1
      rw [if_pos rfl] at h5
      by_cases h0 : kl = 0
      · exact ⟨[], .inl ⟨rfl, some a, kc, by rw [h0]⟩⟩
      · obtain ⟨ab, ao, aq⟩ := a
        have hel : aq = none := by
          have h9 := h7 0 (by omega)
          cases aq with
          | none => rfl
          | some j =>
            exfalso
            simp only [Addr.add, if_true, World.cell?] at h9
            revert h9
            split <;> simp
        subst hel
        have hlen : ((zs.take kl).map (fun z => UInt8.ofNat z.toNat)).length = kl := by simp; omega
        refine ⟨(zs.take kl).map (fun z => UInt8.ofNat z.toNat), .inr ⟨ab, ao, kc, by rw [hlen], ?_, fun i hi => ?_⟩⟩
        · exact hlt (.cell ab ao) (by have := congrArg Prod.snd h6; simp only at this; rw [this]; exact MemPlace.mem_row.2 ⟨0, by omega, by simp⟩)
        · rw [hlen] at hi
          have h9 := h7 i (by omega)
          have h10 : Addr.add ⟨ab, ao, none⟩ i = ⟨ab, ao + i, none⟩ := by unfold Addr.add; split <;> simp_all
          rw [h10] at h9
          rw [h9]
          have hi2 : i < zs.length := by omega
          have h11 := h8 (zs.getD i 0) (by rw [List.getD_eq_getElem?_getD, List.getElem?_eq_getElem hi2]; exact List.getElem_mem _)
          have h12 : 0 ≤ zs.getD i 0 ∧ zs.getD i 0 ≤ 255 := by simpa [Lit.wf, IntKind.min, IntKind.max, IntKind.signed, IntKind.bits] using h11
          rw [List.getElem_map, List.getElem_take]
          have h13 : zs.getD i 0 = zs[i] := by rw [List.getD_eq_getElem?_getD, List.getElem?_eq_getElem hi2]; rfl
          rw [h13] at h12 ⊢
          congr 2
          rw [UInt8.toNat_ofNat']
          omega
  refine (LexerReturns_any s _ ks W hm hks).mono fun e W' ⟨he, hb⟩ => ?_
  subst he
  exact ⟨_, rfl, _, _, _, [], [] ++ p1, [], hW', trodAll_mk1 (shut_bool Tryd.underlying4 _), trodAll_mk2 (shut_string Tryd.underlying9 ws) (Below.trod (by kernel_rfl) (by kernel_rfl) (of_decide_eq_true (by kernel_rfl)) h1 hb hlt), rfl, hb.frame _, fun h => by cases h⟩

theorem said : Rows.LexerReturnsSaid :=
  OpenClaim.holds_of_cond 7 Tryd.f7 rfl rfl rfl rfl rfl rfl rfl ⟨rfl, rfl, rfl, rfl, rfl⟩ rfl rfl rfl rfl rfl (by kernel_rfl) Tryd.func7 (by kernel_rfl)
    (of_decide_eq_true (by kernel_rfl)) (by unfold Func.isWrapper; first | (rw [if_pos (by decide +kernel)]; kernel_rfl) | (rw [if_neg (by decide +kernel)]; exact ⟨rfl, rfl⟩))
    (fun os started H enc _ F => by rw [OpenClaim.pre_eq_preRow]; exact lifted os started H enc F)

theorem plain (f : FuncId) (fn : Func) (hf : Tryd.pinned.checked.prog.funcNamed "modcert/modcertlaw03.LexerReturns" = some f) (hfn : Tryd.pinned.checked.prog.funcs[f]? = some fn) :
    false = Tryd.pinned.checked.prog.looks [] ∧ ∀ (j : Nat) t, fn.params[j]? = some t → Tryd.pinned.checked.prog.wantsStandIn t = false := by
  obtain rfl : f = 7 := Option.some.inj ((show Tryd.prog.funcNamed "modcert/modcertlaw03.LexerReturns" = some 7 by kernel_rfl).symm.trans hf) |>.symm
  obtain rfl : fn = Tryd.f7 := (Option.some.inj (Tryd.func7.symm.trans hfn)).symm
  refine ⟨by kernel_rfl, fun j t ht => ?_⟩
  rw [Tryd.params7] at ht
  have hm : t ∈ [9, 37] := by simpa using Array.mem_of_getElem? ht
  have hall : ([9, 37].all fun u => !Tryd.prog.wantsStandIn u) = true := by kernel_rfl
  exact (show Tryd.prog.wantsStandIn t = false by simpa using List.all_eq_true.1 hall t hm)

/-- the statement. -/
theorem card : Rows.LexerReturnsCardSaid :=
  Claim7.holds_tied_plain_at .later [] _ _ _ _ said (fun _ h => by cases h) (by kernel_rfl) (fun _ h => by cases h) lexerReturns_row_tie rfl ⟨rfl, rfl⟩ (by kernel_rfl) rfl plain (by kernel_rfl)
#print axioms card
end Go.Proofs.YtmlfoffahfbalaaDoor.fnReturns
