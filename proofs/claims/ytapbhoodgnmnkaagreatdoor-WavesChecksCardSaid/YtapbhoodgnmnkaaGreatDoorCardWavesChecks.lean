/- The statement WavesChecks holds: at every input the law returns true, and its arguments read as before. -/
import Derived.Test.YtapbhoodgnmnkaaGreatDoorCards
import Derived.Test.YtapbhoodgnmnkaaGreatDoorTie
import Derived.Test.YtapbhoodgnmnkaaGreatDoorKF
set_option linter.unusedVariables false
set_option linter.unusedSimpArgs false
set_option maxRecDepth 100000
set_option maxHeartbeats 32000000
namespace Go.Proofs.YtapbhoodgnmnkaaGreatDoor.fnWavesChecks
open Go.Proofs.Tryz
open Go.ChangeShapes Go.WideShapes Go.ChangeAt Go.RowKit
open Go.ChangeMaps (open_string shut_string)
theorem witness (os:Os){H:Type}(enc:TypeId×Value→H) :
  (OpenSpec.ofChange Rows.wavesChecksSpec).preRow enc prog Tryz.f4 Rows.wavesChecksRow.domain false Rows.wavesChecksRow.laid ((World.laidAll prog os Rows.wavesChecksRow.laid).forCall (fun _ _=>0) ⟨#[],#[.agg #[.slice none 0 0,.slice none 0 0],.slice none 0 0,.slice none 0 0,.slice none 0 0,.slice none 0 0],[]⟩).memory #[.agg #[.slice none 0 0,.slice none 0 0],.slice none 0 0,.slice none 0 0,.slice none 0 0,.slice none 0 0]:=by
 have hw:(DataW.whole enc prog ((World.laidAll prog os Rows.wavesChecksRow.laid).forCall (fun _ _=>0) ⟨#[],#[.agg #[.slice none 0 0,.slice none 0 0],.slice none 0 0,.slice none 0 0,.slice none 0 0,.slice none 0 0],[]⟩).memory Tryz.f4.params.toList Rows.wavesChecksSpec.vars false (#[.agg #[.slice none 0 0,.slice none 0 0],.slice none 0 0,.slice none 0 0,.slice none 0 0,.slice none 0 0]:Array Value).toList 8).map (fun x=>(x.1,x.2.1)) =
   some ([.agg [.nil,.nil],.nil,.nil,.nil,.nil],[]):=by kernel_rfl
 obtain⟨⟨x1,x2,x3⟩,hx,hx1⟩:=Option.map_eq_some_iff.1 hw
 simp only [Prod.mk.injEq]at hx1
 obtain⟨rfl,rfl⟩:=hx1
 exact OpenSpec.preRow_of_cond 8 hx (by kernel_rfl) (fun k hk=>by cases hk) (by kernel_rfl) (by rw [MakeChecks.laidMetH_plain _ _ _ (by kernel_rfl)];exact laidMet_laidAll _ (by kernel_rfl) (by kernel_rfl))
theorem lifted (os:Os)(started:os.Started)(H:Type)(enc:TypeId×Value→H)(F:Stop.Interp) :
  ReturnsInHanded {} Tryz.checked os 4 .any ((OpenSpec.ofChange Rows.wavesChecksSpec).preRow enc prog Tryz.f4 Rows.wavesChecksRow.domain false Rows.wavesChecksRow.laid) (((OpenSpec.ofChange Rows.wavesChecksSpec).at F).post enc prog Tryz.f4 false true false false):=by
 refine returnsInHanded_of_row (C:=Tryz.checked) (s:=OpenSpec.ofChange Rows.wavesChecksSpec) own started (by kernel_rfl) func4
  (witness_row_at (enc:=enc) (C:=Tryz.checked) false (World.laidAll prog os Rows.wavesChecksRow.laid) #[.agg #[.slice none 0 0,.slice none 0 0],.slice none 0 0,.slice none 0 0,.slice none 0 0,.slice none 0 0] (World.laidAll_os _ _ _) (by kernel_rfl) (by kernel_rfl) (by kernel_rfl)
   (witness os enc)) ?_
 intro W base args ds gs before hval0 hW _ _ hsz0 hlaidH hsh _
 have hlaid:laidMet prog Rows.wavesChecksRow.laid W:=by
  have h:=hlaidH
  rw [MakeChecks.laidMetH_plain _ _ _ (by kernel_rfl)]at h
  exact h
 have hm:=maxOk hsh
 have hval:∀ (j:Nat) t v,Tryz.f4.params[j]? = some t→args[j]? = some v→Value.okWide prog W .any base t v:=hval0
 have hW':=hW
 obtain⟨p,q,hA0,hV,rfl,_,_⟩:=hW
 have hA:DataW.TrodAll enc prog W 0 (fun _=>true) true Tryz.f4.params.toList args.toList ds p:=hA0
 have hsz:(DataW.weightsEach prog (Tryz.f4.params.toList++(OpenSpec.ofChange Rows.wavesChecksSpec).bare.plain.varTypes prog) (ds++gs)).all (·≤reachBytes)=true:=hsz0
 rw [Tryz.params4]at hA hval hsz
 have hA1:=hA
 obtain⟨rfl,rfl⟩:=trodVars_none hV
 have hlt:∀ x∈p,x.block<W.heap.size:=fun x hx=>by simpa using hW'.lt x (by simpa using hx)
 obtain⟨v0,vs0,d0,ds0,p0,q0,e0,rfl,rfl,h0,hr0⟩:=trodAll_cons hA
 obtain⟨v1,vs1,d1,ds1,p1,q1,e1,rfl,rfl,h1,hr1⟩:=trodAll_cons hr0
 obtain⟨v2,vs2,d2,ds2,p2,q2,e2,rfl,rfl,h2,hr2⟩:=trodAll_cons hr1
 obtain⟨v3,vs3,d3,ds3,p3,q3,e3,rfl,rfl,h3,hr3⟩:=trodAll_cons hr2
 obtain⟨v4,vs4,d4,ds4,p4,q4,e4,rfl,rfl,h4,hr4⟩:=trodAll_cons hr3
 obtain⟨rfl,rfl,rfl⟩:=trodAll_nil hr4
 obtain rfl:args=#[v0,v1,v2,v3,v4]:=by cases args;(try subst e4);(try subst e3);(try subst e2);(try subst e1);(try subst e0);simp_all
 obtain⟨a0,c0,iv0,X0,rfl,hl0⟩:=zms (hval 0 25 v0 rfl rfl) h0 (fun y hy=>by simpa using hW'.lt y (by simp [hy]))
 obtain⟨ka1,kl1,kc1,rfl⟩:=okWide_slice underlying26 (hval 1 26 v1 rfl rfl)
 obtain⟨n1,hn1⟩:=h1
 obtain⟨l1,hl1⟩:=open_sels hn1 (fun y hy=>by simpa using hW'.lt y (by simp [hy]))
 obtain⟨ka2,kl2,kc2,rfl⟩:=okWide_slice underlying26 (hval 2 26 v2 rfl rfl)
 obtain⟨n2,hn2⟩:=h2
 obtain⟨l2,hl2⟩:=open_sels hn2 (fun y hy=>by simpa using hW'.lt y (by simp [hy]))
 obtain⟨ka3,kl3,kc3,rfl⟩:=okWide_slice underlying29 (hval 3 29 v3 rfl rfl)
 obtain⟨n3,hn3⟩:=h3
 obtain⟨l3,hl3⟩:=zig hn3 (fun y hy=>by simpa using hW'.lt y (by simp [hy]))
 obtain⟨ka4,kl4,kc4,rfl⟩:=okWide_slice underlying36 (hval 4 36 v4 rfl rfl)
 obtain⟨n4,hn4⟩:=h4
 obtain⟨l4,hl4⟩:=zmt hn4 (fun y hy=>by simpa using hW'.lt y (by simp [hy]))
 have hz4:l4.length*24≤140737488351232:=by rw [names_kl hl4.1];exact zmu hn4 (fun elems spare he=>sized_slice hsz (j:=4) (t:=36) (e:=29) (by rfl) (by rw [← he];rfl) underlying36)
 refine(zh2 a0 c0 iv0 X0 (.slice ka1 kl1 kc1) l1 (.slice ka2 kl2 kc2) l2 (.slice ka3 kl3 kc3) l3 (.slice ka4 kl4 kc4) l4 W hm hl0 hl1 hl2 hl3 hl4 hz4).mono fun e W' ⟨he,hb⟩=>?_
 subst he
 exact⟨_,rfl,_,_,_,[],_,[],hW',trodAll_mk1 (shut_bool underlying4 _),z7z laidOut hb (by kernel_rfl) hA1 hlt,rfl,hb.frame _,fun h=>by cases h⟩
theorem closed:joinedFacts Tryz.pinned.checked.prog 4 Tryz.f4 (OpenSpec.ofChange Rows.wavesChecksSpec).bare Rows.wavesChecksRow=true:=by
 unfold joinedFacts
 repeat' with_reducible refine Bool.and_eq_true_iff.2 ⟨?_,?_⟩
 all_goals as_aux_lemma=>kernel_rfl
theorem said:Rows.WavesChecksSaid :=
 OpenClaim.holds_of_cond 4 Tryz.f4 rfl rfl rfl rfl rfl rfl rfl ⟨rfl,rfl,rfl,rfl,rfl⟩ rfl rfl rfl rfl rfl (by kernel_rfl) func4 closed
  (of_decide_eq_true (by kernel_rfl)) (by unfold Func.isWrapper;first | (rw [if_pos (by decide +kernel)];kernel_rfl) | (rw [if_neg (by decide +kernel)];exact⟨rfl,rfl⟩))
  (fun os started H enc _ F=>by rw [OpenClaim.pre_eq_preRow];exact lifted os started H enc F)
theorem plain (f : FuncId) (fn : Func) (hf : Tryz.pinned.checked.prog.funcNamed "modcert/modcertlaw44.WavesChecks" = some f) (hfn : Tryz.pinned.checked.prog.funcs[f]? = some fn) :
  Rows.wavesChecksCard.stood.looks=Tryz.pinned.checked.prog.looks []∧∀ (j:Nat) t,fn.params[j]? = some t→Tryz.pinned.checked.prog.wantsStandIn t=false:=by
 obtain rfl : f = 4 := Option.some.inj ((show prog.funcNamed "modcert/modcertlaw44.WavesChecks" = some 4 by kernel_rfl).symm.trans hf) |>.symm
 obtain rfl:fn=Tryz.f4:=(Option.some.inj (func4.symm.trans hfn)).symm
 refine⟨by kernel_rfl,fun j t ht=>?_⟩
 rw [Tryz.params4]at ht
 have hm:t∈[25,26,26,29,36]:=by simpa using Array.mem_of_getElem? ht
 have hall:([25,26,26,29,36].all fun u=>!prog.wantsStandIn u)=true:=by kernel_rfl
 exact(show prog.wantsStandIn t=false by simpa using List.all_eq_true.1 hall t hm)
theorem card:Rows.WavesChecksCardSaid :=
 Claim7.holds_tied_plain_at .later [] _ _ _ _ said (fun _ h=>by cases h) (by kernel_rfl) (fun _ h=>by cases h) wavesChecks_row_tie rfl ⟨rfl,rfl⟩ (by kernel_rfl) rfl plain (by kernel_rfl)
#print axioms card
end Go.Proofs.YtapbhoodgnmnkaaGreatDoor.fnWavesChecks
