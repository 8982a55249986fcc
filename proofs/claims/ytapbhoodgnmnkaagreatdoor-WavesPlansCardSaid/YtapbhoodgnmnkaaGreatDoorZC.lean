/- Laws and contracts. -/
import Derived.Test.YtapbhoodgnmnkaaGreatDoorZB
set_option linter.unusedVariables false
set_option linter.unusedSimpArgs false
set_option maxRecDepth 100000
set_option maxHeartbeats 32000000
namespace Go.Proofs.YtapbhoodgnmnkaaGreatDoor
open Go.Proofs.Tryz Go Go.RowKit
theorem zbu (w1:World)(nv ev:Value):Below w1.heap.size w1 (w1.alloc (.cells #[nv,ev] 32))∧(w1.alloc (.cells #[nv,ev] 32)).heap[w1.heap.size]? = some (.cells #[nv,ev] 32 (0,0)):=⟨belQ w1 _,zn w1 _⟩
theorem zar (v iv fv tv:Value)(X:List RelL)(f t:List SelL)(w:World)(hX:X.length≤1000000)(hq:∀ x∈X,RelBd x)(hR:RelsOf w.heap.size v X w)(hf:f.length≤64)(hF:SelsOf w.heap.size fv f w)(ht:t.length≤64)(hT:SelsOf w.heap.size tv t w) :
  Calls prog 10 #[.agg #[v,iv],fv,tv] w (NamedR w (grpV X f t) (errW X f t)):=by
 have HGR:=zh (fun W (hb:Below w.heap.size w W)=>z3w v iv fv tv X f t W hX hq (hR.on hb) hf (hF.on hb) ht (hT.on hb))
 have HCM:=zh (fun W (h0:errW X f t=0) (a:Option Addr) (c:Nat) (ev:Value) (hE:EdgesOf W.heap.size ev (wavE X f t) W) (hr:RowOf Value.string W.heap.size (.slice a (movesP f t).length c) (movesP f t) W)=>z3v a (movesP f t) (movesP f t).length c ev (wavE X f t) W rfl hE hr (z4i h0))
 have HNM:=zh (fun W (h0:errW X f t=0) (nv ev rv:Value) (hN:RowOf Value.string W.heap.size nv (movesP f t) W) (hev:∃ a n c,ev=.slice a n c) (hr:RowsOf W.heap.size rv (compsG (movesP f t).length (wavE X f t)) W)=>z9m nv ev rv (movesP f t) (compsG (movesP f t).length (wavE X f t)) W (by have:=z18 h0;omega) (z2r _ _).1 (by
   have h1:=z18 h0
   obtain⟨_,h2,h3⟩:=z2r (movesP f t).length (wavE X f t)
   exact⟨by omega,fun l hl=>by have:=h2 l hl;omega⟩) hN hev hr)
 have HV0:Hid (errW X f t=0→grpV X f t=nameL (movesP f t) (compsG (movesP f t).length (wavE X f t))):=zh (fun h=>by unfold grpV;rw [if_pos h];rfl)
 have HV1:Hid (errW X f t≠0→grpV X f t=[]):=zh (fun h=>by unfold grpV;rw [if_neg h])
 have HG0:Hid (errW X f t=0→graphV X f t=((movesP f t,wavE X f t),0)):=zh (fun h=>by unfold graphV;rw [h,if_pos rfl])
 have HG1:Hid (errW X f t≠0→graphV X f t=(([],[]),errW X f t)):=zh (fun h=>by unfold graphV;rw [if_neg h])
 obtain⟨va,vn,vc,rfl⟩:∃ a n c,v=.slice a n c:=by obtain⟨a,c,_,e,_⟩:=hR.rv;exact⟨_,_,_,e⟩
 obtain⟨fa,fc,rfl⟩:=zo hF
 obtain⟨ta,tc,rfl⟩:=zo hT
 clear hq hR hF hT
 have HB0:=zh (IdxBx.start w (.slice va vn vc) iv)
 unfold NamedR
 obtain⟨E,hE⟩:∃ E,errW X f t=E:=⟨_,rfl⟩
 rw [hE]at HG0 HG1 HV0 HV1 HCM HNM ⊢
 clear hE
 generalize grpV X f t=LL at *
 generalize graphV X f t=GV at *
 generalize compsG (movesP f t).length (wavE X f t)=S at *
 generalize movesP f t=L at *
 generalize wavE X f t=EL at *
 go_enter func10,ntmps10
 go_upto_region 1 with fail
 generalize w.alloc (.cells #[.slice va vn vc,iv] 25)=W at *
 have c0:=HB0.out.c0
 have c1:=HB0.out.c1
 go_wp2_with fail
 refine(HGR.out _ HB0.out.bel).mono ?_
 rintro e w1 ⟨nv,ev,rfl,hrn,hre,hb1⟩
 have HB1:=zh (HB0.out.below hb1)
 obtain⟨na,nc,rfl,_⟩:=z02 hrn
 obtain⟨ea,ec,rfl⟩:=zo hre
 have hgb:=zbu w1 (.slice na GV.1.1.length nc) (.slice ea GV.1.2.length ec)
 have HGB:=zh hgb.2
 have HB2:=zh (HB1.out.below hgb.1)
 have HRN:=zh ((hrn.below hgb.1 (zq _)).mono hgb.1.size)
 have HRE:=zh ((hre.below hgb.1 (zq _)).mono hgb.1.size)
 clear hb1 hrn hre hgb c0 c1 HGR HB0 HB1
 by_cases h0:E=0
 case neg =>
  have hG:=HG1.out h0
  subst hG
  have h0b:(E != 0)=true:=by simpa using h0
  have HB3:=zh HB2.out.bel
  have HV:=zh (HV1.out h0)
  clear HCM HNM HG0 HG1 HV0 HV1 HRN HRE HGB HB2
  go_wp2_with fail
  go_ret2
  rw [HV.out]
  exact⟨_,rfl,⟨none,0,rfl,fun i l hl=>by cases hl⟩,HB3.out⟩
 subst h0
 have hG:=HG0.out rfl
 subst hG
 simp only at HRN HRE
 have HV:=zh (HV0.out rfl)
 have HCM2:=zh (fun W=>HCM.out W rfl)
 have HNM2:=zh (fun W=>HNM.out W rfl)
 clear HV0 HV1 HG0 HG1 HCM HNM
 go_upto_region 4 with fail
 generalize w1.alloc (.cells #[.slice na L.length nc,.slice ea EL.length ec] 32)=w2 at *
 generalize w1.heap.size=gg at *
 have HB3:Hid (Below w.heap.size w w2.drew):=zh HB2.out.bel.drew
 have HSB:Hid (∀ W,Below w2.heap.size w2 W→HeldX gg (.slice na L.length nc) (.slice ea EL.length ec) W):=zh (fun W hb=>by
  have h:=(hb.block _ (zb HGB.out)).trans HGB.out
  exact⟨blk0 h,blk1 h⟩)
 have HC3:=zh (HCM2.out w2.drew _ _ _ (show EdgesOf w2.drew.heap.size _ _ w2.drew from(HRE.out.below (Below.refl _ _).drew (zq _))) ((HRN.out.below (Below.refl _ _).drew (zq _))))
 have HN3:Hid (∀ W,Below w2.heap.size w2 W→∀ rv,RowsOf W.heap.size rv S W→Calls prog 33 #[.agg #[.slice na L.length nc,.slice ea EL.length ec],rv] W fun e w'=>∃ v,e=.returned v∧NamesOf w'.heap.size v (nameL L S) w'∧Below W.heap.size W w'):=zh (fun W hb rv hr=>HNM2.out W _ _ rv ((HRN.out.below hb (zq _)).mono hb.size) ⟨_,_,_,rfl⟩ hr)
 clear HCM2 HNM2 HRN HRE HGB HB2
 refine wp_region_noPanic ?_
 refine wp_region_held_drew (S:=HeldX gg (.slice na L.length nc) (.slice ea EL.length ec)) (by kernel_rfl) (HSB.out _ (Below.refl _ _).drew) (fun hS0=>?_)
 refine zt 0 _ rfl ?_;simp only [zl1];refine zt 1 _ rfl ?_;simp only [zl1]
 refine zr 2 rfl fun K hK=>?_
 go_simp
 refine(HC3.out).mono ?_
 rintro e w4 ⟨rv,rfl,hrv,hb4⟩
 have HB4:Hid (Below w2.heap.size w2 w4):=zh ((Below.refl _ _).drew.trans hb4)
 have HB4w:Hid (Below w.heap.size w w4):=zh (HB3.out.trans (hb4.mono HB3.out.size))
 have HRV:=zh hrv
 clear hS0
 have hS0:=HSB.out _ HB4.out
 refine hK.out _ _ hS0 (fun _=>?_)
 clear hK K hb4 hrv
 (try simp only [zl1])
 refine zr 3 rfl fun K hK=>?_
 go_simp
 refine(HN3.out _ HB4.out _ HRV.out).mono ?_
 rintro e w5 ⟨nv,rfl,hnn,hb5⟩
 have HNN:=zh hnn
 have HB4b:Hid (Below w2.heap.size w2 w5):=zh (HB4.out.trans (hb5.mono HB4.out.size))
 have HB5:Hid (Below w.heap.size w w5):=zh (HB4w.out.trans (hb5.mono HB4w.out.size))
 clear hS0
 have hS0:=HSB.out _ HB4b.out
 refine hK.out _ _ hS0 (fun _=>?_)
 clear hK K hb5 hnn
 (try simp only [zl1])
 refine zt 4 _ rfl ?_;simp only [zl1];refine zt 5 _ rfl ?_;simp only [zl1]
 refine wpAnyH_done (by kernel_rfl) ?_ _
 refine NoPanic.normal ?_
 clear hS0 HSB HC3 HN3
 go_wp2_with fail
 go_ret2
 rw [HV.out]
 exact⟨_,rfl,HNN.out,HB5.out⟩
theorem zcr (v iv fv tv:Value)(X:List RelL)(f t:List SelL)(w:World)(hX:X.length≤1000000)(hq:∀ x∈X,RelBd x)(hR:RelsOf w.heap.size v X w)(hf:f.length≤64)(hF:SelsOf w.heap.size fv f w)(ht:t.length≤64)(hT:SelsOf w.heap.size tv t w) :
  Calls prog 12 #[.agg #[v,iv],fv,tv] w (NamedR w (wavV X f t) (errW X f t)):=by
 have HGR:=zh (fun W (hb:Below w.heap.size w W)=>z3w v iv fv tv X f t W hX hq (hR.on hb) hf (hF.on hb) ht (hT.on hb))
 have HCM:=zh (fun W (h0:errW X f t=0) (a:Option Addr) (c:Nat) (ev:Value) (hE:EdgesOf W.heap.size ev (wavE X f t) W) (hr:RowOf Value.string W.heap.size (.slice a (movesP f t).length c) (movesP f t) W)=>zeg a (movesP f t) (movesP f t).length c ev (wavE X f t) W rfl hE hr (z4i h0))
 have HNM:=zh (fun W (h0:errW X f t=0) (nv ev rv:Value) (hN:RowOf Value.string W.heap.size nv (movesP f t) W) (hev:∃ a n c,ev=.slice a n c) (hr:RowsOf W.heap.size rv (levelsG (movesP f t).length (wavE X f t)) W)=>z9m nv ev rv (movesP f t) (levelsG (movesP f t).length (wavE X f t)) W (by have:=z18 h0;omega) (z39 _ _).1 (by
   have h1:=z18 h0
   obtain⟨_,h2,h3⟩:=z39 (movesP f t).length (wavE X f t)
   exact⟨by omega,fun l hl=>by have:=h2 l hl;omega⟩) hN hev hr)
 have HV0:Hid (errW X f t=0→wavV X f t=nameL (movesP f t) (levelsG (movesP f t).length (wavE X f t))):=zh (fun h=>by unfold wavV;rw [if_pos h];rfl)
 have HV1:Hid (errW X f t≠0→wavV X f t=[]):=zh (fun h=>by unfold wavV;rw [if_neg h])
 have HG0:Hid (errW X f t=0→graphV X f t=((movesP f t,wavE X f t),0)):=zh (fun h=>by unfold graphV;rw [h,if_pos rfl])
 have HG1:Hid (errW X f t≠0→graphV X f t=(([],[]),errW X f t)):=zh (fun h=>by unfold graphV;rw [if_neg h])
 obtain⟨va,vn,vc,rfl⟩:∃ a n c,v=.slice a n c:=by obtain⟨a,c,_,e,_⟩:=hR.rv;exact⟨_,_,_,e⟩
 obtain⟨fa,fc,rfl⟩:=zo hF
 obtain⟨ta,tc,rfl⟩:=zo hT
 clear hq hR hF hT
 have HB0:=zh (IdxBx.start w (.slice va vn vc) iv)
 unfold NamedR
 obtain⟨E,hE⟩:∃ E,errW X f t=E:=⟨_,rfl⟩
 rw [hE]at HG0 HG1 HV0 HV1 HCM HNM ⊢
 clear hE
 generalize wavV X f t=LL at *
 generalize graphV X f t=GV at *
 generalize levelsG (movesP f t).length (wavE X f t)=S at *
 generalize movesP f t=L at *
 generalize wavE X f t=EL at *
 go_enter func12,ntmps12
 go_upto_region 1 with fail
 generalize w.alloc (.cells #[.slice va vn vc,iv] 25)=W at *
 have c0:=HB0.out.c0
 have c1:=HB0.out.c1
 go_wp2_with fail
 refine(HGR.out _ HB0.out.bel).mono ?_
 rintro e w1 ⟨nv,ev,rfl,hrn,hre,hb1⟩
 have HB1:=zh (HB0.out.below hb1)
 obtain⟨na,nc,rfl,_⟩:=z02 hrn
 obtain⟨ea,ec,rfl⟩:=zo hre
 have hgb:=zbu w1 (.slice na GV.1.1.length nc) (.slice ea GV.1.2.length ec)
 have HGB:=zh hgb.2
 have HB2:=zh (HB1.out.below hgb.1)
 have HRN:=zh ((hrn.below hgb.1 (zq _)).mono hgb.1.size)
 have HRE:=zh ((hre.below hgb.1 (zq _)).mono hgb.1.size)
 clear hb1 hrn hre hgb c0 c1 HGR HB0 HB1
 by_cases h0:E=0
 case neg =>
  have hG:=HG1.out h0
  subst hG
  have h0b:(E != 0)=true:=by simpa using h0
  have HB3:=zh HB2.out.bel
  have HV:=zh (HV1.out h0)
  clear HCM HNM HG0 HG1 HV0 HV1 HRN HRE HGB HB2
  go_wp2_with fail
  go_ret2
  rw [HV.out]
  exact⟨_,rfl,⟨none,0,rfl,fun i l hl=>by cases hl⟩,HB3.out⟩
 subst h0
 have hG:=HG0.out rfl
 subst hG
 simp only at HRN HRE
 have HV:=zh (HV0.out rfl)
 have HCM2:=zh (fun W=>HCM.out W rfl)
 have HNM2:=zh (fun W=>HNM.out W rfl)
 clear HV0 HV1 HG0 HG1 HCM HNM
 go_upto_region 4 with fail
 generalize w1.alloc (.cells #[.slice na L.length nc,.slice ea EL.length ec] 32)=w2 at *
 generalize w1.heap.size=gg at *
 have HB3:Hid (Below w.heap.size w w2.drew):=zh HB2.out.bel.drew
 have HSB:Hid (∀ W,Below w2.heap.size w2 W→HeldX gg (.slice na L.length nc) (.slice ea EL.length ec) W):=zh (fun W hb=>by
  have h:=(hb.block _ (zb HGB.out)).trans HGB.out
  exact⟨blk0 h,blk1 h⟩)
 have HC3:=zh (HCM2.out w2.drew _ _ _ (show EdgesOf w2.drew.heap.size _ _ w2.drew from(HRE.out.below (Below.refl _ _).drew (zq _))) ((HRN.out.below (Below.refl _ _).drew (zq _))))
 have HN3:Hid (∀ W,Below w2.heap.size w2 W→∀ rv,RowsOf W.heap.size rv S W→Calls prog 33 #[.agg #[.slice na L.length nc,.slice ea EL.length ec],rv] W fun e w'=>∃ v,e=.returned v∧NamesOf w'.heap.size v (nameL L S) w'∧Below W.heap.size W w'):=zh (fun W hb rv hr=>HNM2.out W _ _ rv ((HRN.out.below hb (zq _)).mono hb.size) ⟨_,_,_,rfl⟩ hr)
 clear HCM2 HNM2 HRN HRE HGB HB2
 refine wp_region_noPanic ?_
 refine wp_region_held_drew (S:=HeldX gg (.slice na L.length nc) (.slice ea EL.length ec)) (by kernel_rfl) (HSB.out _ (Below.refl _ _).drew) (fun hS0=>?_)
 refine zt 0 _ rfl ?_;simp only [zl1];refine zt 1 _ rfl ?_;simp only [zl1]
 refine zr 2 rfl fun K hK=>?_
 go_simp
 refine(HC3.out).mono ?_
 rintro e w4 ⟨rv,rfl,hrv,hb4⟩
 have HB4:Hid (Below w2.heap.size w2 w4):=zh ((Below.refl _ _).drew.trans hb4)
 have HB4w:Hid (Below w.heap.size w w4):=zh (HB3.out.trans (hb4.mono HB3.out.size))
 have HRV:=zh hrv
 clear hS0
 have hS0:=HSB.out _ HB4.out
 refine hK.out _ _ hS0 (fun _=>?_)
 clear hK K hb4 hrv
 (try simp only [zl1])
 refine zr 3 rfl fun K hK=>?_
 go_simp
 refine(HN3.out _ HB4.out _ HRV.out).mono ?_
 rintro e w5 ⟨nv,rfl,hnn,hb5⟩
 have HNN:=zh hnn
 have HB4b:Hid (Below w2.heap.size w2 w5):=zh (HB4.out.trans (hb5.mono HB4.out.size))
 have HB5:Hid (Below w.heap.size w w5):=zh (HB4w.out.trans (hb5.mono HB4w.out.size))
 clear hS0
 have hS0:=HSB.out _ HB4b.out
 refine hK.out _ _ hS0 (fun _=>?_)
 clear hK K hb5 hnn
 (try simp only [zl1])
 refine zt 4 _ rfl ?_;simp only [zl1];refine zt 5 _ rfl ?_;simp only [zl1]
 refine wpAnyH_done (by kernel_rfl) ?_ _
 refine NoPanic.normal ?_
 clear hS0 HSB HC3 HN3
 go_wp2_with fail
 go_ret2
 rw [HV.out]
 exact⟨_,rfl,HNN.out,HB5.out⟩
def HeldP49 (gx:Nat)(v iv:Value)(g:Nat)(a b:Value)(k:Nat)(c d:Value)(W:World):Prop:=W.cell? ⟨gx,0,none⟩=some v∧W.cell? ⟨gx,1,none⟩=some iv∧W.cell? ⟨g,0,none⟩=some a∧W.cell? ⟨g,1,none⟩=some b∧W.cell? ⟨k,0,none⟩=some c∧W.cell? ⟨k,1,none⟩=some d
theorem zk0 {L:List (List ByteArray)}{g:List ByteArray}(h:g∈L):g.length≤L.flatten.length:=(List.sublist_flatten_of_mem h).length_le
theorem z9n {L:List (List ByteArray)}(h:L.flatten.length≤24)(i:Nat):(L.getD i []).length≤1000000000:=by
 rw [zg]
 cases hi:L[i]? with
 | none=>simp
 | some g=>have:=zk0 (List.mem_of_getElem? hi);simp only [Option.getD_some];omega
theorem InW.grp_small {v iv fv tv:Value}{X:List RelL}{f t:List SelL}{w:World}(hin:InW v iv fv tv X f t w):(grpV X f t).length≤1000000000∧∀ i,((grpV X f t).getD i []).length≤1000000000:=by
 unfold grpV
 by_cases h:errW X f t=0
 ·rw [if_pos h]
  have hp:=z9h hin (z8a h).1
  exact⟨by omega,z9n hp.2.1⟩
 ·rw [if_neg h]
  exact⟨by simp,fun i=>by simp⟩
theorem InW.wav_small {v iv fv tv:Value}{X:List RelL}{f t:List SelL}{w:World}(hin:InW v iv fv tv X f t w):(wavV X f t).length≤1000000000∧∀ i,((wavV X f t).getD i []).length≤1000000000:=by
 unfold wavV
 by_cases h:errW X f t=0
 ·rw [if_pos h]
  have hp:=z9h hin (z8a h).2.1
  exact⟨by omega,z9n hp.2.1⟩
 ·rw [if_neg h]
  exact⟨by simp,fun i=>by simp⟩
theorem InW.graph_small {v iv fv tv:Value}{X:List RelL}{f t:List SelL}{w:World}(hin:InW v iv fv tv X f t w):(graphV X f t).1.1.length≤1000000000∧(graphV X f t).1.2.length≤1000000000:=by
 unfold graphV
 by_cases h:errW X f t=0
 ·rw [if_pos h]
  have h1:=z1p f t
  have h2:=z9z h
  have h5:=hin.fl
  have h6:=hin.tl
  exact⟨by simp only;omega,by simp only;omega⟩
 ·rw [if_neg h]
  exact⟨by simp,by simp⟩
theorem InW.rgraph {v iv fv tv:Value}{X:List RelL}{f t:List SelL}{w:World}(h:InW v iv fv tv X f t w):Calls prog 8 #[.agg #[v,iv],fv,tv] w (GraphR w (graphV X f t)) :=
 z3w v iv fv tv X f t w h.xl h.xq h.rel (by have:=h.fl;omega) h.sf (by have:=h.tl;omega) h.st
theorem InW.rgroups {v iv fv tv:Value}{X:List RelL}{f t:List SelL}{w:World}(h:InW v iv fv tv X f t w):Calls prog 10 #[.agg #[v,iv],fv,tv] w (NamedR w (grpV X f t) (errW X f t)) :=
 zar v iv fv tv X f t w h.xl h.xq h.rel (by have:=h.fl;omega) h.sf (by have:=h.tl;omega) h.st
theorem InW.rwaves {v iv fv tv:Value}{X:List RelL}{f t:List SelL}{w:World}(h:InW v iv fv tv X f t w):Calls prog 12 #[.agg #[v,iv],fv,tv] w (NamedR w (wavV X f t) (errW X f t)) :=
 zcr v iv fv tv X f t w h.xl h.xq h.rel (by have:=h.fl;omega) h.sf (by have:=h.tl;omega) h.st
theorem InW.rcons {v iv fv tv:Value}{X:List RelL}{f t:List SelL}{w:World}(h:InW v iv fv tv X f t w):Calls prog 14 #[.agg #[v,iv],fv] w fun e w'=>e=.returned (.int .i64 (consV X f))∧Below w.heap.size w w' :=
 z86 v iv fv X f w h.xl h.xq h.rel (by have:=h.fl;omega) h.sf
theorem zkf (a:Option Addr)(c:Nat)(iv:Value)(X:List RelL)(fv:Value)(f:List SelL)(tv:Value)(t:List SelL)(w:World)(hm:MaxOk w)(h0:RelsOf w.heap.size (.slice a X.length c) X w∧X.length≤maxLen∧∀ x∈X,x.reqs.length≤maxLen)
  (h1:SelsOf w.heap.size fv f w∧f.length≤maxLen∧∀ y∈f,SelBd y) (h2:SelsOf w.heap.size tv t w∧t.length≤maxLen∧∀ y∈t,SelBd y) :
  Calls prog 3 #[.agg #[.slice a X.length c,iv],fv,tv] w fun e w'=>e=.returned (.bool true)∧Below w.heap.size w w':=by
 obtain⟨hR,hX,hXr⟩:=h0
 obtain⟨hF,hfl,hfy⟩:=h1
 obtain⟨hT,htl,hty⟩:=h2
 obtain⟨fa,fc,rfl⟩:=zo hF
 obtain⟨ta,tc,rfl⟩:=zo hT
 have HAW:=zh (fun W (hb:RowKit.Below w.heap.size w W)=>zdi W (hm.below hb hm.pos))
 have HFEW:=zh (fun W (hb:RowKit.Below w.heap.size w W)=>zic a c iv X fa ta f.length fc t.length tc W hX hXr (hR.on hb) hfl htl)
 have HINP:=zh (fun W (hb:RowKit.Below w.heap.size w W) (h:FewR X 16∧f.length≤12∧t.length≤12)=>InW.of_few hm hR hF hfy hT hty (iv:=iv) h hb)
 clear hm hR hX hXr hF hfl hfy hT htl hty
 have HB0:=zh (IdxBx.start w (.slice a X.length c) iv)
 go_enter func3,ntmps3
 go_upto_region 1 with fail
 generalize w.alloc (.cells #[.slice a X.length c,iv] 25)=W0 at *
 go_wp2_with fail
 refine(HAW.out _ HB0.out.bel).mono ?_
 rintro e w1 ⟨rfl,hb1⟩
 have HB1:=zh (HB0.out.below hb1)
 clear hb1 HAW HB0
 have c0:=HB1.out.c0
 have c1:=HB1.out.c1
 go_wp2_with fail
 refine(HFEW.out _ HB1.out.bel).mono ?_
 rintro e w2 ⟨fb,rfl,hfew,hb2⟩
 have HB:=zh (HB1.out.below hb2)
 clear hb2 HFEW HB1 c0 c1
 cases fb with
 | false =>
  clear hfew HINP
  go_wp2_with fail
  go_ret
  exact⟨rfl,HB.out.bel⟩
 | true =>
 have HIN:=zh (HINP.out w2 HB.out.bel (hfew rfl))
 clear hfew HINP
 have HGS:=zh HIN.out.graph_small
 have HGG:=zh HIN.out.grp_small
 have HWS:=zh HIN.out.wav_small
 obtain⟨P1,hP1⟩:∃ P1,(graphV X f t).1.1=P1:=⟨_,rfl⟩
 obtain⟨E1,hE1⟩:∃ E1,(graphV X f t).1.2=E1:=⟨_,rfl⟩
 obtain⟨G1,hG1⟩:∃ G1,grpV X f t=G1:=⟨_,rfl⟩
 obtain⟨V1,hV1⟩:∃ V1,wavV X f t=V1:=⟨_,rfl⟩
 obtain⟨E0,hE0⟩:∃ E0,errW X f t=E0:=⟨_,rfl⟩
 have hg2:(graphV X f t).2=E0:=by rw [← hE0];rfl
 have HP1:=zh hP1
 have HE1:=zh hE1
 have HG2:=zh hg2
 have HG1:=zh hG1
 have HV1:=zh hV1
 have HE0:=zh hE0
 rw [hP1,hE1]at HGS
 rw [hG1]at HGG
 rw [hV1]at HWS
 clear hP1 hE1 hG1 hV1 hE0 hg2
 have c0:=HB.out.c0
 have c1:=HB.out.c1
 have hco:=HIN.out.graph
 unfold GraphR at hco
 rw [HP1.out,HE1.out,HG2.out]at hco
 have HCO:=zh hco
 clear hco
 go_wp2_with fail
 refine HCO.out.mono ?_
 rintro e w3 ⟨nv,ev,rfl,hnr,hne,hbx⟩
 replace HB:=zh (HB.out.below hbx)
 replace HIN:=zh (HIN.out.on hbx)
 have HNR1:=zh hnr
 have HNE1:=zh hne
 obtain⟨na,nac,rfl,_⟩:=z02 hnr
 obtain⟨ea,eac,rfl⟩:=zo hne
 clear hnr hne hbx HCO c0 c1
 have hbx:=belQ w3 (.cells #[.slice na P1.length nac,.slice ea E1.length eac] 32)
 have hnx:=zn w3 (.cells #[.slice na P1.length nac,.slice ea E1.length eac] 32)
 replace HB:=zh (HB.out.below hbx)
 replace HIN:=zh (HIN.out.on hbx)
 replace HNR1:=zh (z0y HNR1.out hbx)
 replace HNE1:=zh (z0b HNE1.out hbx)
 have HBG:=zh hnx
 go_upto_region 6 with fail
 generalize w3.alloc (.cells #[.slice na P1.length nac,.slice ea E1.length eac] 32)=w4 at *
 generalize w3.heap.size=bg at *
 clear hbx hnx
 have c0:=HB.out.c0
 have c1:=HB.out.c1
 have hco:=HIN.out.rgraph
 unfold GraphR at hco
 rw [HP1.out,HE1.out,HG2.out]at hco
 have HCO:=zh hco
 clear hco
 go_wp2_with fail
 refine HCO.out.mono ?_
 rintro e w5 ⟨nv2,ev2,rfl,hnr,hne,hbx⟩
 replace HB:=zh (HB.out.below hbx)
 replace HIN:=zh (HIN.out.on hbx)
 replace HNR1:=zh (z0y HNR1.out hbx)
 replace HNE1:=zh (z0b HNE1.out hbx)
 replace HBG:=zk hbx HBG
 have HNR2:=zh hnr
 have HNE2:=zh hne
 obtain⟨na2,na2c,rfl,_⟩:=z02 hnr
 obtain⟨ea2,ea2c,rfl⟩:=zo hne
 clear hnr hne hbx HCO c0 c1
 have hbx:=belQ w5 (.cells #[.slice na2 P1.length na2c,.slice ea2 E1.length ea2c] 32)
 have hnx:=zn w5 (.cells #[.slice na2 P1.length na2c,.slice ea2 E1.length ea2c] 32)
 replace HB:=zh (HB.out.below hbx)
 replace HIN:=zh (HIN.out.on hbx)
 replace HNR1:=zh (z0y HNR1.out hbx)
 replace HNE1:=zh (z0b HNE1.out hbx)
 replace HBG:=zk hbx HBG
 replace HNR2:=zh (z0y HNR2.out hbx)
 replace HNE2:=zh (z0b HNE2.out hbx)
 have HBH:=zh hnx
 go_upto_region 7 with fail
 generalize w5.alloc (.cells #[.slice na2 P1.length na2c,.slice ea2 E1.length ea2c] 32)=w6 at *
 generalize w5.heap.size=bh at *
 clear hbx hnx
 have c0:=HB.out.c0
 have c1:=HB.out.c1
 have hco:=HIN.out.groups
 unfold NamedR at hco
 rw [HG1.out,HE0.out]at hco
 have HCO:=zh hco
 clear hco
 go_wp2_with fail
 refine HCO.out.mono ?_
 rintro e w7 ⟨lv,rfl,hnx,hbx⟩
 replace HB:=zh (HB.out.below hbx)
 replace HIN:=zh (HIN.out.on hbx)
 replace HNR1:=zh (z0y HNR1.out hbx)
 replace HNE1:=zh (z0b HNE1.out hbx)
 replace HBG:=zk hbx HBG
 replace HNR2:=zh (z0y HNR2.out hbx)
 replace HNE2:=zh (z0b HNE2.out hbx)
 replace HBH:=zk hbx HBH
 have HL1:=zh hnx
 obtain⟨lva,lvc,rfl⟩:=zo hnx
 clear hnx hbx HCO c0 c1
 have c0:=HB.out.c0
 have c1:=HB.out.c1
 have hco:=HIN.out.rgroups
 unfold NamedR at hco
 rw [HG1.out,HE0.out]at hco
 have HCO:=zh hco
 clear hco
 go_wp2_with fail
 refine HCO.out.mono ?_
 rintro e w8 ⟨lv2,rfl,hnx,hbx⟩
 replace HB:=zh (HB.out.below hbx)
 replace HIN:=zh (HIN.out.on hbx)
 replace HNR1:=zh (z0y HNR1.out hbx)
 replace HNE1:=zh (z0b HNE1.out hbx)
 replace HBG:=zk hbx HBG
 replace HNR2:=zh (z0y HNR2.out hbx)
 replace HNE2:=zh (z0b HNE2.out hbx)
 replace HBH:=zk hbx HBH
 replace HL1:=zh (z00 HL1.out hbx)
 have HL2:=zh hnx
 obtain⟨lv2a,lv2c,rfl⟩:=zo hnx
 clear hnx hbx HCO c0 c1
 have c0:=HB.out.c0
 have c1:=HB.out.c1
 have hco:=HIN.out.waves
 unfold NamedR at hco
 rw [HV1.out,HE0.out]at hco
 have HCO:=zh hco
 clear hco
 go_wp2_with fail
 refine HCO.out.mono ?_
 rintro e w9 ⟨mv,rfl,hnx,hbx⟩
 replace HB:=zh (HB.out.below hbx)
 replace HIN:=zh (HIN.out.on hbx)
 replace HNR1:=zh (z0y HNR1.out hbx)
 replace HNE1:=zh (z0b HNE1.out hbx)
 replace HBG:=zk hbx HBG
 replace HNR2:=zh (z0y HNR2.out hbx)
 replace HNE2:=zh (z0b HNE2.out hbx)
 replace HBH:=zk hbx HBH
 replace HL1:=zh (z00 HL1.out hbx)
 replace HL2:=zh (z00 HL2.out hbx)
 have HM1:=zh hnx
 obtain⟨mva,mvc,rfl⟩:=zo hnx
 clear hnx hbx HCO c0 c1
 have c0:=HB.out.c0
 have c1:=HB.out.c1
 have hco:=HIN.out.rwaves
 unfold NamedR at hco
 rw [HV1.out,HE0.out]at hco
 have HCO:=zh hco
 clear hco
 go_wp2_with fail
 refine HCO.out.mono ?_
 rintro e w10 ⟨mv2,rfl,hnx,hbx⟩
 replace HB:=zh (HB.out.below hbx)
 replace HIN:=zh (HIN.out.on hbx)
 replace HNR1:=zh (z0y HNR1.out hbx)
 replace HNE1:=zh (z0b HNE1.out hbx)
 replace HBG:=zk hbx HBG
 replace HNR2:=zh (z0y HNR2.out hbx)
 replace HNE2:=zh (z0b HNE2.out hbx)
 replace HBH:=zk hbx HBH
 replace HL1:=zh (z00 HL1.out hbx)
 replace HL2:=zh (z00 HL2.out hbx)
 replace HM1:=zh (z00 HM1.out hbx)
 have HM2:=zh hnx
 obtain⟨mv2a,mv2c,rfl⟩:=zo hnx
 clear hnx hbx HCO c0 c1
 have hEE:(E0 == E0)=true:=by simp
 obtain⟨C0,hC0⟩:∃ C0,consV X f=C0:=⟨_,rfl⟩
 have HC0:=zh hC0
 clear hC0
 have hCC:(C0 == C0)=true:=by simp
 clear HP1 HE1 HG2 HG1 HV1 HE0
 go_upto_region 11 with fail
 have hbx:Below w10.heap.size w10 w10.drew:=(Below.refl _ _).drew
 replace HB:=zh (HB.out.below hbx)
 replace HIN:=zh (HIN.out.on hbx)
 replace HNR1:=zh (z0y HNR1.out hbx)
 replace HNE1:=zh (z0b HNE1.out hbx)
 replace HBG:=zk hbx HBG
 replace HNR2:=zh (z0y HNR2.out hbx)
 replace HNE2:=zh (z0b HNE2.out hbx)
 replace HBH:=zk hbx HBH
 replace HL1:=zh (z00 HL1.out hbx)
 replace HL2:=zh (z00 HL2.out hbx)
 replace HM1:=zh (z00 HM1.out hbx)
 replace HM2:=zh (z00 HM2.out hbx)
 clear hbx
 refine wp_region_noPanic ?_
 refine wp_region_held_drew (S:=HeldP49 w.heap.size (.slice a X.length c) iv bg (.slice na P1.length nac) (.slice ea E1.length eac) bh (.slice na2 P1.length na2c) (.slice ea2 E1.length ea2c)) (by kernel_rfl) ⟨HB.out.c0,HB.out.c1,blk0 HBG.out,blk1 HBG.out,blk0 HBH.out,blk1 HBH.out⟩ (fun hS0=>?_)
 refine zt 0 _ rfl ?_;simp only [zl1];refine zt 1 _ rfl ?_;simp only [zl1];refine zt 3 _ rfl ?_;simp only [zl1];refine zt 4 _ rfl ?_;simp only [zl1]
 have hco:=HIN.out.cons (by have:=HIN.out.fl;omega) HIN.out.fy HIN.out.sf
 rw [HC0.out]at hco
 have HK1:=zh hco
 clear hco
 refine zr 2 rfl fun K hK=>?_
 go_simp
 refine(HK1.out).mono ?_
 rintro e w11 ⟨rfl,hbx⟩
 replace HB:=zh (HB.out.below hbx)
 replace HIN:=zh (HIN.out.on hbx)
 replace HNR1:=zh (z0y HNR1.out hbx)
 replace HNE1:=zh (z0b HNE1.out hbx)
 replace HBG:=zk hbx HBG
 replace HNR2:=zh (z0y HNR2.out hbx)
 replace HNE2:=zh (z0b HNE2.out hbx)
 replace HBH:=zk hbx HBH
 replace HL1:=zh (z00 HL1.out hbx)
 replace HL2:=zh (z00 HL2.out hbx)
 replace HM1:=zh (z00 HM1.out hbx)
 replace HM2:=zh (z00 HM2.out hbx)
 clear hS0
 have hS0:=(⟨HB.out.c0,HB.out.c1,blk0 HBG.out,blk1 HBG.out,blk0 HBH.out,blk1 HBH.out⟩:HeldP49 _ _ _ _ _ _ _ _ _ _)
 refine hK.out _ _ hS0 (fun _=>?_)
 clear hK K hbx
 (try simp only [zl1])
 have hco:=HIN.out.rcons
 rw [HC0.out]at hco
 have HK2:=zh hco
 clear hco
 refine zr 5 rfl fun K hK=>?_
 go_simp
 refine(HK2.out).mono ?_
 rintro e w12 ⟨rfl,hbx⟩
 replace HB:=zh (HB.out.below hbx)
 replace HIN:=zh (HIN.out.on hbx)
 replace HNR1:=zh (z0y HNR1.out hbx)
 replace HNE1:=zh (z0b HNE1.out hbx)
 replace HBG:=zk hbx HBG
 replace HNR2:=zh (z0y HNR2.out hbx)
 replace HNE2:=zh (z0b HNE2.out hbx)
 replace HBH:=zk hbx HBH
 replace HL1:=zh (z00 HL1.out hbx)
 replace HL2:=zh (z00 HL2.out hbx)
 replace HM1:=zh (z00 HM1.out hbx)
 replace HM2:=zh (z00 HM2.out hbx)
 clear hS0
 have hS0:=(⟨HB.out.c0,HB.out.c1,blk0 HBG.out,blk1 HBG.out,blk0 HBH.out,blk1 HBH.out⟩:HeldP49 _ _ _ _ _ _ _ _ _ _)
 refine hK.out _ _ hS0 (fun _=>?_)
 clear hK K hbx
 (try simp only [zl1])
 refine zt 6 _ rfl ?_;simp only [zl1];refine zt 7 _ rfl ?_;simp only [zl1];refine zt 8 _ rfl ?_;simp only [zl1];refine zt 9 _ rfl ?_;simp only [zl1];refine zt 10 _ rfl ?_;simp only [zl1];refine zt 11 _ rfl ?_;simp only [zl1]
 have hco:=z90 _ _ P1 P1 _ HGS.out.1 HGS.out.1 HNR1.out HNR2.out
 rw [decide_eq_true rfl]at hco
 have HK3:=zh hco
 clear hco
 refine zr 12 rfl fun K hK=>?_
 go_simp
 refine(HK3.out).mono ?_
 rintro e w13 ⟨rfl,hbx⟩
 replace HB:=zh (HB.out.below hbx)
 replace HIN:=zh (HIN.out.on hbx)
 replace HNR1:=zh (z0y HNR1.out hbx)
 replace HNE1:=zh (z0b HNE1.out hbx)
 replace HBG:=zk hbx HBG
 replace HNR2:=zh (z0y HNR2.out hbx)
 replace HNE2:=zh (z0b HNE2.out hbx)
 replace HBH:=zk hbx HBH
 replace HL1:=zh (z00 HL1.out hbx)
 replace HL2:=zh (z00 HL2.out hbx)
 replace HM1:=zh (z00 HM1.out hbx)
 replace HM2:=zh (z00 HM2.out hbx)
 clear hS0
 have hS0:=(⟨HB.out.c0,HB.out.c1,blk0 HBG.out,blk1 HBG.out,blk0 HBH.out,blk1 HBH.out⟩:HeldP49 _ _ _ _ _ _ _ _ _ _)
 refine hK.out _ _ hS0 (fun _=>?_)
 clear hK K hbx
 (try simp only [zl1])
 refine zt 13 _ rfl ?_;simp only [zl1];refine zt 14 _ rfl ?_;simp only [zl1];refine zt 15 _ rfl ?_;simp only [zl1];refine zt 16 _ rfl ?_;simp only [zl1];refine zt 17 _ rfl ?_;simp only [zl1];refine zt 18 _ rfl ?_;simp only [zl1]
 have hco:=zia _ _ E1 E1 _ HGS.out.2 HGS.out.2 HNE1.out HNE2.out
 rw [decide_eq_true rfl]at hco
 have HK4:=zh hco
 clear hco
 refine zr 19 rfl fun K hK=>?_
 go_simp
 refine(HK4.out).mono ?_
 rintro e w14 ⟨rfl,hbx⟩
 replace HB:=zh (HB.out.below hbx)
 replace HIN:=zh (HIN.out.on hbx)
 replace HNR1:=zh (z0y HNR1.out hbx)
 replace HNE1:=zh (z0b HNE1.out hbx)
 replace HBG:=zk hbx HBG
 replace HNR2:=zh (z0y HNR2.out hbx)
 replace HNE2:=zh (z0b HNE2.out hbx)
 replace HBH:=zk hbx HBH
 replace HL1:=zh (z00 HL1.out hbx)
 replace HL2:=zh (z00 HL2.out hbx)
 replace HM1:=zh (z00 HM1.out hbx)
 replace HM2:=zh (z00 HM2.out hbx)
 clear hS0
 have hS0:=(⟨HB.out.c0,HB.out.c1,blk0 HBG.out,blk1 HBG.out,blk0 HBH.out,blk1 HBH.out⟩:HeldP49 _ _ _ _ _ _ _ _ _ _)
 refine hK.out _ _ hS0 (fun _=>?_)
 clear hK K hbx
 (try simp only [zl1])
 refine zt 20 _ rfl ?_;simp only [zl1];refine zt 21 _ rfl ?_;simp only [zl1];refine zt 22 _ rfl ?_;simp only [zl1];refine zt 23 _ rfl ?_;simp only [zl1];refine zt 24 _ rfl ?_;simp only [zl1];refine zt 25 _ rfl ?_;simp only [zl1];refine zt 26 _ rfl ?_;simp only [zl1];refine zt 27 _ rfl ?_;simp only [zl1];refine zt 28 _ rfl ?_;simp only [zl1]
 have hco:=z45 _ _ G1 G1 _ HL1.out HL2.out HGG.out.1 HGG.out.1 HGG.out.2 HGG.out.2
 rw [decide_eq_true rfl]at hco
 have HK5:=zh hco
 clear hco
 refine zr 29 rfl fun K hK=>?_
 go_simp
 refine(HK5.out).mono ?_
 rintro e w15 ⟨rfl,hbx⟩
 replace HB:=zh (HB.out.below hbx)
 replace HIN:=zh (HIN.out.on hbx)
 replace HNR1:=zh (z0y HNR1.out hbx)
 replace HNE1:=zh (z0b HNE1.out hbx)
 replace HBG:=zk hbx HBG
 replace HNR2:=zh (z0y HNR2.out hbx)
 replace HNE2:=zh (z0b HNE2.out hbx)
 replace HBH:=zk hbx HBH
 replace HL1:=zh (z00 HL1.out hbx)
 replace HL2:=zh (z00 HL2.out hbx)
 replace HM1:=zh (z00 HM1.out hbx)
 replace HM2:=zh (z00 HM2.out hbx)
 clear hS0
 have hS0:=(⟨HB.out.c0,HB.out.c1,blk0 HBG.out,blk1 HBG.out,blk0 HBH.out,blk1 HBH.out⟩:HeldP49 _ _ _ _ _ _ _ _ _ _)
 refine hK.out _ _ hS0 (fun _=>?_)
 clear hK K hbx
 (try simp only [zl1])
 refine zt 30 _ rfl ?_;simp only [zl1];refine zt 31 _ rfl ?_;simp only [zl1];refine zt 32 _ rfl ?_;simp only [zl1];refine zt 33 _ rfl ?_;simp only [zl1];refine zt 34 _ rfl ?_;simp only [zl1];refine zt 35 _ rfl ?_;simp only [zl1];refine zt 36 _ rfl ?_;simp only [zl1];refine zt 37 _ rfl ?_;simp only [zl1];refine zt 38 _ rfl ?_;simp only [zl1]
 have hco:=z45 _ _ V1 V1 _ HM1.out HM2.out HWS.out.1 HWS.out.1 HWS.out.2 HWS.out.2
 rw [decide_eq_true rfl]at hco
 have HK6:=zh hco
 clear hco
 refine zr 39 rfl fun K hK=>?_
 go_simp
 refine(HK6.out).mono ?_
 rintro e w16 ⟨rfl,hbx⟩
 replace HB:=zh (HB.out.below hbx)
 replace HIN:=zh (HIN.out.on hbx)
 replace HNR1:=zh (z0y HNR1.out hbx)
 replace HNE1:=zh (z0b HNE1.out hbx)
 replace HBG:=zk hbx HBG
 replace HNR2:=zh (z0y HNR2.out hbx)
 replace HNE2:=zh (z0b HNE2.out hbx)
 replace HBH:=zk hbx HBH
 replace HL1:=zh (z00 HL1.out hbx)
 replace HL2:=zh (z00 HL2.out hbx)
 replace HM1:=zh (z00 HM1.out hbx)
 replace HM2:=zh (z00 HM2.out hbx)
 clear hS0
 have hS0:=(⟨HB.out.c0,HB.out.c1,blk0 HBG.out,blk1 HBG.out,blk0 HBH.out,blk1 HBH.out⟩:HeldP49 _ _ _ _ _ _ _ _ _ _)
 refine hK.out _ _ hS0 (fun _=>?_)
 clear hK K hbx
 (try simp only [zl1])
 refine zt 40 _ rfl ?_;simp only [zl1];refine zt 41 _ rfl ?_;simp only [zl1];refine zt 42 _ rfl ?_;simp only [zl1];refine zt 43 _ rfl ?_;simp only [zl1];refine zt 44 _ rfl ?_;simp only [zl1];refine zt 45 _ rfl ?_;simp only [zl1];refine zt 46 _ rfl ?_;simp only [zl1]
 refine wpAnyH_done (by kernel_rfl) ?_ _
 refine NoPanic.normal ?_
 clear hS0
 go_wp2_with fail
 go_ret
 exact⟨rfl,HB.out.bel⟩
end Go.Proofs.YtapbhoodgnmnkaaGreatDoor
