/- The statement VersionReturns holds: at every input the law returns true, and its arguments read as before. -/
import Derived.Test.YtbpgbbdebhmlkaaDoorCards
import Derived.Test.YtbpgbbdebhmlkaaDoorTie
import Derived.Test.YtbpgbbdebhmlkaaDoorCardKit
import Derived.Test.YtbpgbbdebhmlkaaDoorVReturns
namespace Go.Proofs.YtbpgbbdebhmlkaaDoor.fnVersionReturns
open Go.ChangeShapes Go.WideShapes Go.ChangeAt Go.RowKit
open Go.ChangeMaps (open_string shut_string)

/-- an input that fits. -/
theorem witness (os : Os) {H : Type} (enc : TypeId × Value → H) :
    (OpenSpec.ofChange Rows.versionReturnsSpec).preRow enc Tryd.prog Tryd.f4 Rows.versionReturnsRow.domain false Rows.versionReturnsRow.laid ((World.laidAll Tryd.prog os Rows.versionReturnsRow.laid).forCall (fun _ _ => 0) ⟨#[], #[.agg #[.int .i64 0, .int .i64 0, .int .i64 0], .string ⟨#[]⟩, .string ⟨#[]⟩], []⟩).memory #[.agg #[.int .i64 0, .int .i64 0, .int .i64 0], .string ⟨#[]⟩, .string ⟨#[]⟩] := by
  have hw : (DataW.whole enc Tryd.prog ((World.laidAll Tryd.prog os Rows.versionReturnsRow.laid).forCall (fun _ _ => 0) ⟨#[], #[.agg #[.int .i64 0, .int .i64 0, .int .i64 0], .string ⟨#[]⟩, .string ⟨#[]⟩], []⟩).memory Tryd.f4.params.toList Rows.versionReturnsSpec.vars false (#[.agg #[.int .i64 0, .int .i64 0, .int .i64 0], .string ⟨#[]⟩, .string ⟨#[]⟩] : Array Value).toList 8).map (fun x => (x.1, x.2.1)) =
      some ([.agg [.lit (.int .i64 0), .lit (.int .i64 0), .lit (.int .i64 0)], .lit (.string []), .lit (.string [])], []) := by kernel_rfl
  obtain ⟨⟨x1, x2, x3⟩, hx, hx1⟩ := Option.map_eq_some_iff.1 hw
  simp only [Prod.mk.injEq] at hx1
  obtain ⟨rfl, rfl⟩ := hx1
  exact OpenSpec.preRow_of_cond 8 hx (by kernel_rfl) (fun k hk => by cases hk) (by kernel_rfl) (by rw [MakeChecks.laidMetH_plain _ _ _ (by kernel_rfl)]; exact laidMet_laidAll _ (by kernel_rfl) (by kernel_rfl))

set_option maxRecDepth 100000 in
theorem lifted (os : Os) (started : os.Started) (H : Type) (enc : TypeId × Value → H) (F : Stop.Interp) :
    ReturnsInHanded {} Tryd.checked os 4 .any ((OpenSpec.ofChange Rows.versionReturnsSpec).preRow enc Tryd.prog Tryd.f4 Rows.versionReturnsRow.domain false Rows.versionReturnsRow.laid) (((OpenSpec.ofChange Rows.versionReturnsSpec).at F).post enc Tryd.prog Tryd.f4 false true false false) := by
  refine returnsInHanded_of_row (C := Tryd.checked) (s := OpenSpec.ofChange Rows.versionReturnsSpec) own started (by kernel_rfl) Tryd.func4
    (witness_row_at (enc := enc) (C := Tryd.checked) false (World.laidAll Tryd.prog os Rows.versionReturnsRow.laid) #[.agg #[.int .i64 0, .int .i64 0, .int .i64 0], .string ⟨#[]⟩, .string ⟨#[]⟩] (World.laidAll_os _ _ _) (by kernel_rfl) (by kernel_rfl) (by kernel_rfl)
      (witness os enc)) ?_
  intro W base args ds gs before hval0 hW _ _ _ hlaidH hsh _
  have hlaid : laidMet Tryd.prog Rows.versionReturnsRow.laid W := by
    have h := hlaidH
    rw [MakeChecks.laidMetH_plain _ _ _ (by kernel_rfl)] at h
    exact h
  have hm : EnvOk W := ⟨maxOk hsh, by first | exact tabOk _ 2 rfl hlaid | exact tabOk _ 0 rfl hlaid | exact tabOk _ 1 rfl hlaid | exact tabOk _ 3 rfl hlaid⟩
  have hval : ∀ (j : Nat) t v, Tryd.f4.params[j]? = some t → args[j]? = some v → Value.okWide Tryd.prog W .any base t v := hval0
  have hW' := hW
  obtain ⟨p, q, hA0, hV, rfl, _, _⟩ := hW
  have hA : DataW.TrodAll enc Tryd.prog W 0 (fun _ => true) true Tryd.f4.params.toList args.toList ds p := hA0
  rw [Tryd.params4] at hA hval
  have hA1 := hA
  obtain ⟨rfl, rfl⟩ := trodVars_none hV
  have hlt : ∀ x ∈ p, x.block < W.heap.size := fun x hx => by simpa using hW'.lt x (by simpa using hx)
  obtain ⟨v0, vs0, d0, ds0, p0, q0, e0, rfl, rfl, h0, hr0⟩ := trodAll_cons hA
  obtain ⟨v1, vs1, d1, ds1, p1, q1, e1, rfl, rfl, h1, hr1⟩ := trodAll_cons hr0
  obtain ⟨v2, vs2, d2, ds2, p2, q2, e2, rfl, rfl, h2, hr2⟩ := trodAll_cons hr1
  obtain ⟨rfl, rfl, rfl⟩ := trodAll_nil hr2
  obtain rfl : args = #[v0, v1, v2] := by cases args; (try subst e2); (try subst e1); (try subst e0); simp_all
  obtain ⟨x0, y0, z0, rfl⟩ := open_ver (hval 0 23 v0 rfl rfl) h0
  obtain ⟨x1, rfl, _, _, ws1⟩ := open_string Tryd.underlying9 (hval 1 9 v1 rfl rfl) h1
  obtain ⟨x2, rfl, _, _, ws2⟩ := open_string Tryd.underlying9 (hval 2 9 v2 rfl rfl) h2
  refine (VersionReturns_any x0 y0 z0 x1 x2 W hm).mono fun e W' ⟨he, hb⟩ => ?_
  subst he
  exact ⟨_, rfl, _, _, _, [], _, [], hW', trodAll_mk1 (shut_bool Tryd.underlying4 _), trodAll_belowP laidOut hb (by kernel_rfl) hA1 hlt, rfl, hb.frame _, fun h => by cases h⟩

theorem said : Rows.VersionReturnsSaid :=
  OpenClaim.holds_of_cond 4 Tryd.f4 rfl rfl rfl rfl rfl rfl rfl ⟨rfl, rfl, rfl, rfl, rfl⟩ rfl rfl rfl rfl rfl (by kernel_rfl) Tryd.func4 (by kernel_rfl)
    (of_decide_eq_true (by kernel_rfl)) (by unfold Func.isWrapper; first | (rw [if_pos (by decide +kernel)]; kernel_rfl) | (rw [if_neg (by decide +kernel)]; exact ⟨rfl, rfl⟩))
    (fun os started H enc _ F => by rw [OpenClaim.pre_eq_preRow]; exact lifted os started H enc F)

theorem plain (f : FuncId) (fn : Func) (hf : Tryd.pinned.checked.prog.funcNamed "modcert/modcertlaw24.VersionReturns" = some f) (hfn : Tryd.pinned.checked.prog.funcs[f]? = some fn) :
    Rows.versionReturnsCard.stood.looks = Tryd.pinned.checked.prog.looks [] ∧ ∀ (j : Nat) t, fn.params[j]? = some t → Tryd.pinned.checked.prog.wantsStandIn t = false := by
  obtain rfl : f = 4 := Option.some.inj ((show Tryd.prog.funcNamed "modcert/modcertlaw24.VersionReturns" = some 4 by kernel_rfl).symm.trans hf) |>.symm
  obtain rfl : fn = Tryd.f4 := (Option.some.inj (Tryd.func4.symm.trans hfn)).symm
  refine ⟨by kernel_rfl, fun j t ht => ?_⟩
  rw [Tryd.params4] at ht
  have hm : t ∈ [23, 9, 9] := by simpa using Array.mem_of_getElem? ht
  have hall : ([23, 9, 9].all fun u => !Tryd.prog.wantsStandIn u) = true := by kernel_rfl
  exact (show Tryd.prog.wantsStandIn t = false by simpa using List.all_eq_true.1 hall t hm)

/-- the statement. -/
theorem card : Rows.VersionReturnsCardSaid :=
  Claim7.holds_tied_plain_at .later [] _ _ _ _ said (fun _ h => by cases h) (by kernel_rfl) (fun _ h => by cases h) versionReturns_row_tie rfl ⟨rfl, rfl⟩ (by kernel_rfl) rfl plain (by kernel_rfl)
#print axioms card
end Go.Proofs.YtbpgbbdebhmlkaaDoor.fnVersionReturns
