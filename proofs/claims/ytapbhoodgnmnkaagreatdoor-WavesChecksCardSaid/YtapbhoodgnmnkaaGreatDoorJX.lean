/- Laws and contracts. -/
import Derived.Test.YtapbhoodgnmnkaaGreatDoorJW
set_option linter.unusedVariables false
set_option linter.unusedSimpArgs false
set_option maxRecDepth 100000
set_option maxHeartbeats 32000000
namespace Go.Proofs.YtapbhoodgnmnkaaGreatDoor
open Go.Proofs.Tryz Go Go.RowKit
theorem zc8 (v iv fv tv:Value)(X:List RelL)(f t:List SelL)(w:World)(hX:X.length≤1000000)(hq:∀ x∈X,RelBd x)(hR:RelsOf w.heap.size v X w)(hf:f.length≤64)(hF:SelsOf w.heap.size fv f w)(ht:t.length≤64)(hT:SelsOf w.heap.size tv t w) :
  Calls prog 28 #[.agg #[v,iv],fv,tv] w fun e w'=>e=.returned (.int .i64 (errW X f t))∧Below w.heap.size w w':=by
 obtain⟨va,vn,vc,rfl⟩:∃ a n c,v=.slice a n c:=by obtain⟨a,c,_,e,_⟩:=hR.rv;exact⟨_,_,_,e⟩
 have HCF:=zh (fun W (hb:Below w.heap.size w W)=>z7i (.slice va vn vc) iv fv X f W hX hq (hR.on hb) hf (hF.on hb))
 have HCT:=zh (fun W (hb:Below w.heap.size w W)=>z7i (.slice va vn vc) iv tv X t W hX hq (hR.on hb) ht (hT.on hb))
 obtain⟨fa,fc,rfl⟩:=zo hF
 obtain⟨ta,tc,rfl⟩:=zo hT
 have HV:Hid (errW X f t=if consV X f≠0 then consV X f else consV X t):=zh rfl
 clear hR hq hF hT
 generalize consV X f=E at *
 generalize consV X t=F at *
 have HB0:=zh (IdxBx.start w (.slice va vn vc) iv)
 go_enter func28,ntmps28
 go_upto_region 1 with fail
 generalize w.alloc (.cells #[.slice va vn vc,iv] 25)=W at *
 have c0:=HB0.out.c0
 have c1:=HB0.out.c1
 go_wp2_with fail
 refine(HCF.out _ HB0.out.bel).mono ?_
 rintro e w1 ⟨rfl,hb1⟩
 have HB1:=zh (HB0.out.below hb1)
 clear hb1 c0 c1 HCF HB0
 by_cases h0:E=0
 case neg =>
  have h0b:(E != 0)=true:=by simpa using h0
  have HVV:=zh (HV.out.trans (if_pos h0))
  go_wp2_with fail
  go_ret
  exact⟨by rw [HVV.out];rfl,HB1.out.bel⟩
 have HVV:=zh (HV.out.trans (if_neg (fun h=>h h0)))
 subst h0
 have c0:=HB1.out.c0
 have c1:=HB1.out.c1
 go_wp2_with fail
 refine(HCT.out _ HB1.out.bel).mono ?_
 rintro e w2 ⟨rfl,hb2⟩
 have HB2:=zh (HB1.out.below hb2)
 clear hb2 c0 c1
 go_wp2_with fail
 go_ret
 exact⟨by rw [HVV.out];rfl,HB2.out.bel⟩
def fitsV (X:List RelL)(o o2:Option SelL)(p:ByteArray):Bool:=match o with
 | some y=>(reqsOf X y).all fun q=>!(decide (q.1=p)&&!metB o2.toList q)
 | none=>true
theorem z26 (o:Option SelL):o.toList.length≤1:=by cases o<;>simp
theorem zcb (v iv rv ov:Value)(X:List RelL)(o1 o2:Option SelL)(p:ByteArray)(w:World)(hX:X.length≤1000000)(hq:∀ x∈X,RelBd x)(hc:checkX X=0)(hR:RelsOf w.heap.size v X w)
  (hfd:∀ y,o1=some y→(findR X y).isSome=true) (hF:SelsOf w.heap.size rv o1.toList w) (hvl:∀ y,o2=some y→validB y.2.1 y.2.2.1 y.2.2.2=true) (hO:SelsOf w.heap.size ov o2.toList w) :
  Calls prog 59 #[.agg #[v,iv],rv,ov,.string p] w fun e w'=>e=.returned (.bool (fitsV X o1 o2 p))∧Below w.heap.size w w':=by
 obtain⟨va,vn,vc,rfl⟩:∃ a n c,v=.slice a n c:=by obtain⟨a,c,_,e,_⟩:=hR.rv;exact⟨_,_,_,e⟩
 obtain⟨v,hv0⟩:∃ v,Value.slice va vn vc=v:=⟨_,rfl⟩
 rw [hv0]at hR ⊢
 have HF:=zh (fun y W (hb:Below w.heap.size w W)=>z7h v iv X y W w.heap.size hb.size hX hq (hR.below hb (zq _)))
 have HQ:=zh hq
 have HSA:=zh (fun(q:ReqL) (r:Value) W (hl:q.2.length≤1000000) (hb:Below w.heap.size w W) (hS:SpansOf W.heap.size r q.2 W)=>zf6 q r ov o2.toList W hl (Nat.le_trans (z26 o2) (by omega)) (fun y hy=>hvl y (by cases o2 with
  | none=>cases hy
  | some z=>rw [show y=z by simpa using hy])) hS (hO.on hb))
 obtain⟨oa,on,oc,rfl⟩:∃ a n c,ov=.slice a n c:=by obtain⟨a,c,e,_⟩:=hO;exact⟨a,_,c,e⟩
 have HB0:=zh (belQ w (.cells #[v,iv] 25))
 have HI0:=zh (zn w (.cells #[v,iv] 25))
 cases o1 with
 | none =>
  obtain⟨a,c,rfl,_⟩:=hF
  clear hR hq hfd hO HF HSA
  go_enter func59,ntmps59
  go_upto_region 1 with fail
  generalize w.alloc (.cells #[v,iv] 25)=W at *
  simp only [Option.toList,List.length_nil]
  go_wp2_with fail
  go_ret
  exact⟨rfl,HB0.out⟩
 | some y =>
 obtain⟨x,hx⟩:=Option.isSome_iff_exists.1 (hfd y rfl)
 have HXF:=zh hx
 have hxm:x∈X:=by
  obtain⟨i,hi,e,_⟩:=z1d hx
  rw [zg,ze hi]at e
  rw [← e];exact List.getElem_mem hi
 have HXB:=zh (hq x hxm)
 have HFV:Hid (fitsV X (some y) o2 p=x.reqs.all fun q=>!(decide (q.1=p)&&!metB o2.toList q)):=zh (by
  show((reqsOf X y).all fun q=>!(decide (q.1=p)&&!metB o2.toList q))=_
  unfold reqsOf
  rw [hx])
 have hFX:findX X y=some x:=by unfold findX;rw [if_pos hc];exact hx
 have HFY:=zh (fun W hb=>HF.out y W hb)
 unfold FindR2 at HFY
 rw [hFX]at HFY
 simp only [Option.getD_some,Option.isSome_some]at HFY
 obtain⟨ra0,rc0,hrv,hel⟩:=hF
 rw [show(some y:Option SelL).toList.length=1 from rfl]at hrv
 subst hrv
 obtain⟨b,off,rfl,hbl,d0,d1,d2,d3⟩:=hel 0 y rfl
 simp only [Nat.zero_mul,Nat.add_zero]at d0 d1 d2 d3
 rw [HFV.out]
 obtain⟨RV,hRV⟩:∃ RV,(x.reqs.all fun q=>!(decide (q.1=p)&&!metB o2.toList q))=RV:=⟨_,rfl⟩
 rw [hRV]
 have HRV:=zh hRV
 clear hRV
 clear hR hq hfd hO HF hx hxm hFX hel HFV hc
 go_enter func59,ntmps59
 go_upto_region 1 with fail
 generalize hWW:w.alloc (.cells #[v,iv] 25)=wr at *
 clear hWW
 have hi8:=(zb HI0.out)
 have HBW:=zh HB0.out
 have hbw:b<wr.heap.size:=Nat.lt_of_lt_of_le hbl HB0.out.size
 have d0:=(HB0.out.cell (p:=⟨b,off,none⟩) hbl).trans d0
 have d1:=(HB0.out.cell (p:=⟨b,off+1,none⟩) hbl).trans d1
 have d2:=(HB0.out.cell (p:=⟨b,off+2,none⟩) hbl).trans d2
 have d3:=(HB0.out.cell (p:=⟨b,off+3,none⟩) hbl).trans d3
 have c0:wr.cell? ⟨w.heap.size,0,none⟩=some v:=blk0 HI0.out
 have c1:wr.cell? ⟨w.heap.size,1,none⟩=some iv:=blk1 HI0.out
 obtain⟨ob,hob⟩:∃ ob,true=ob:=⟨_,rfl⟩
 rw [hob]at HFY
 clear hob
 have HSS:Hid (∀ W':World,Below wr.heap.size wr W'→HeldS ⟨w.heap.size,0,none⟩ ⟨w.heap.size,1,none⟩ ⟨b,off,none⟩ ⟨b,off+1,none⟩ ⟨b,off+2,none⟩ ⟨b,off+3,none⟩ v iv (.string y.1) (intC y.2.1) (intC y.2.2.1) (intC y.2.2.2) W'):=zh (fun W' hb=>⟨(hb.cell (p:=⟨w.heap.size,0,none⟩) hi8).trans c0,(hb.cell (p:=⟨w.heap.size,1,none⟩) hi8).trans c1,(hb.cell (p:=⟨b,_,none⟩) hbw).trans d0,(hb.cell (p:=⟨b,_,none⟩) hbw).trans d1,(hb.cell (p:=⟨b,_,none⟩) hbw).trans d2,(hb.cell (p:=⟨b,_,none⟩) hbw).trans d3⟩)
 clear d0 d1 d2 d3 c0 c1
 simp only [relC_at]at HFY
 go_upto_region 3 with fail
 go_cut [9,10,15,25,26,27] (fun s8 s9 s28 s40 s41 s42 wx=>∃ (g8:Nat) (ra:Option Addr) (rc:Nat),s8=.pointer (some ⟨g8,0,none⟩)∧s9=.bool ob∧s28=.tuple #[.agg (relC x (.slice ra x.reqs.length rc)),.bool ob]∧s40=.tuple #[.agg (relC x (.slice ra x.reqs.length rc)),.bool ob]∧s41=.agg (relC x (.slice ra x.reqs.length rc))∧s42=.bool ob ∧
  Hid (BoxR wx g8 x (.slice ra x.reqs.length rc)∧ReqsOf w.heap.size (.slice ra x.reqs.length rc) x.reqs wx∧Below wr.heap.size wr wx))
 case first =>
  refine wp_region_noPanic ?_
  refine wp_region_held_drew (S:=HeldS ⟨w.heap.size,0,none⟩ ⟨w.heap.size,1,none⟩ ⟨b,off,none⟩ ⟨b,off+1,none⟩ ⟨b,off+2,none⟩ ⟨b,off+3,none⟩ v iv (.string y.1) (intC y.2.1) (intC y.2.2.1) (intC y.2.2.2)) (by kernel_rfl) (HSS.out _ (Below.refl _ _).drew) (fun hS0=>?_)
  refine zt 0 _ rfl ?_;simp only [zl1];refine zt 1 _ rfl ?_;simp only [zl1];refine zt 2 _ rfl ?_;simp only [zl1];refine zt 3 _ rfl ?_;simp only [zl1];refine zt 4 _ rfl ?_;simp only [zl1];refine zt 5 _ rfl ?_;simp only [zl1];refine zt 6 _ rfl ?_;simp only [zl1];refine zt 7 _ rfl ?_;simp only [zl1];refine zt 8 _ rfl ?_;simp only [zl1]
  refine wpAnyH_ready (rs:=[9,13]) (by kernel_rfl) (by simp) (AllReadyH.cons rfl (fun K hK=>?_) (AllReadyH.cons rfl (fun K hK=>?_) AllReadyH.nil))
  ·go_simp
   refine(HFY.out _ HBW.out.drew).mono ?_
   rintro e w3 ⟨r',rfl,hrr,hb3⟩
   have HRR:=zh hrr
   obtain⟨ra,rc,rfl,_⟩:=hrr
   have hb4:Below wr.heap.size wr w3:=(Below.refl _ _).drew.trans (show Below wr.heap.size wr.drew w3 from hb3.mono (zq _))
   have HB4:=zh hb4
   refine hK.out _ _ (HSS.out _ hb4) (fun hS1=>?_)
   clear hK K hS0 hb3 hb4
   (try simp only [zl1])
   refine zt 10 _ rfl ?_;simp only [zl1];refine zt 11 _ rfl ?_;simp only [zl1];refine zt 12 _ rfl ?_;simp only [zl1]
   refine zr 13 rfl fun K hK=>?_
   go_simp
   have HB5:=zh (HB4.out.trans ((belQ w3 (.cells #[.string ⟨#[]⟩,.int .i64 0,.int .i64 0,.int .i64 0,.slice none 0 0,.string ⟨#[]⟩,.string ⟨#[]⟩,.string ⟨#[]⟩,.bool false] 82)).mono HB4.out.size))
   have HZ5:=zh (zn w3 (.cells #[.string ⟨#[]⟩,.int .i64 0,.int .i64 0,.int .i64 0,.slice none 0 0,.string ⟨#[]⟩,.string ⟨#[]⟩,.string ⟨#[]⟩,.bool false] 82))
   have HR5:=zh (HRR.out.below (belQ w3 (.cells #[.string ⟨#[]⟩,.int .i64 0,.int .i64 0,.int .i64 0,.slice none 0 0,.string ⟨#[]⟩,.string ⟨#[]⟩,.string ⟨#[]⟩,.bool false] 82)) (Nat.le_trans HBW.out.size HB4.out.size))
   refine hK.out _ _ (HSS.out _ HB5.out) (fun hS2=>?_)
   clear hK K hS1
   (try simp only [zl1])
   generalize hg8:w3.heap.size=g8 at *
   have hg8l:wr.heap.size≤g8:=by have:=HB4.out.size;omega
   generalize w3.alloc (.cells #[.string ⟨#[]⟩,.int .i64 0,.int .i64 0,.int .i64 0,.slice none 0 0,.string ⟨#[]⟩,.string ⟨#[]⟩,.string ⟨#[]⟩,.bool false] 82)=W5 at *
   have hz5:=HZ5.out
   have b0:W5.cell? ⟨g8,0,none⟩=some (.string ⟨#[]⟩):=zw _ _ 0 _ _ _ hz5
   have b1:W5.cell? ⟨g8,1,none⟩=some (.int .i64 0):=zw _ _ 1 _ _ _ hz5
   have b2:W5.cell? ⟨g8,2,none⟩=some (.int .i64 0):=zw _ _ 2 _ _ _ hz5
   have b3:W5.cell? ⟨g8,3,none⟩=some (.int .i64 0):=zw _ _ 3 _ _ _ hz5
   have b4:W5.cell? ⟨g8,4,none⟩=some (.slice none 0 0):=zw _ _ 4 _ _ _ hz5
   have b5:W5.cell? ⟨g8,5,none⟩=some (.string ⟨#[]⟩):=zw _ _ 5 _ _ _ hz5
   have b6:W5.cell? ⟨g8,6,none⟩=some (.string ⟨#[]⟩):=zw _ _ 6 _ _ _ hz5
   have b7:W5.cell? ⟨g8,7,none⟩=some (.string ⟨#[]⟩):=zw _ _ 7 _ _ _ hz5
   have b8:W5.cell? ⟨g8,8,none⟩=some (.bool false):=zw _ _ 8 _ _ _ hz5
   have F:∀ j,W5.frozen? ⟨g8,j,none⟩=false:=fun j=>frozen_of_row _ _ j _ _ hz5
   have f0:=F 0
   have f1:=F 1
   have f2:=F 2
   have f3:=F 3
   have f4:=F 4
   have f5:=F 5
   have f6:=F 6
   have f7:=F 7
   have f8:=F 8
   clear F
   have hgr:=z11 W5 (g8) x (.slice ra x.reqs.length rc)
   have hbx:BoxR (setRel W5 (g8) x (.slice ra x.reqs.length rc)) (g8) x (.slice ra x.reqs.length rc):=z1h x (.slice ra x.reqs.length rc) hz5
   have hbl:Below wr.heap.size wr (setRel W5 (g8) x (.slice ra x.reqs.length rc)):=HB5.out.grown hgr HB5.out.size (fun b hb=>by cases hb;omega)
   have hrl:ReqsOf w.heap.size (.slice ra x.reqs.length rc) x.reqs (setRel W5 (g8) x (.slice ra x.reqs.length rc)):=HR5.out.below (B':=w.heap.size) ((Below.refl _ _).grown hgr (Nat.le_trans HBW.out.size HB5.out.size) (fun b hb=>by cases hb;have:=HBW.out.size;omega)) (zq _)
   have hss:=HSS.out _ hbl
   have HBX:=zh (And.intro hbx (And.intro hrl hbl))
   unfold setRel at HBX hss
   clear hgr hbx hbl hrl hz5
   refine zr 14 rfl fun K hK=>?_
   go_simp
   refine hK.out _ _ hss (fun hS9=>?_)
   clear hK K hss hS2
   (try simp only [zl1])
   refine zt 15 _ rfl ?_;simp only [zl1]
   refine wpAnyH_done (by kernel_rfl) ?_ _
   refine NoPanic.normal ?_
   go_wp2_with fail
   go_meet
   exact⟨_,ra,rc,rfl,rfl,rfl,rfl,rfl,rfl,HBX⟩
  ·go_simp
   have HB5:Hid (Below wr.heap.size wr ((wr.alloc (.cells #[.string ⟨#[]⟩,.int .i64 0,.int .i64 0,.int .i64 0,.slice none 0 0,.string ⟨#[]⟩,.string ⟨#[]⟩,.string ⟨#[]⟩,.bool false] 82)).drew)):=zh (belQ wr (.cells #[.string ⟨#[]⟩,.int .i64 0,.int .i64 0,.int .i64 0,.slice none 0 0,.string ⟨#[]⟩,.string ⟨#[]⟩,.string ⟨#[]⟩,.bool false] 82)).drew
   refine hK.out _ _ (HSS.out _ HB5.out) (fun hS1=>?_)
   clear hK K hS0
   (try simp only [zl1])
   refine zr 9 rfl fun K hK=>?_
   go_simp
   refine(HFY.out _ (HBW.out.trans (HB5.out.mono HBW.out.size))).mono ?_
   rintro e W5 ⟨r',rfl,hrr,hb3⟩
   have HR5:=zh hrr
   obtain⟨ra,rc,rfl,_⟩:=hrr
   have HB4:=zj HB5 hb3
   have hz5:=(hb3.block wr.heap.size (by simp)).trans (show((wr.alloc (.cells #[.string ⟨#[]⟩,.int .i64 0,.int .i64 0,.int .i64 0,.slice none 0 0,.string ⟨#[]⟩,.string ⟨#[]⟩,.string ⟨#[]⟩,.bool false] 82)).drew).heap[wr.heap.size]? = _ from zn wr (.cells #[.string ⟨#[]⟩,.int .i64 0,.int .i64 0,.int .i64 0,.slice none 0 0,.string ⟨#[]⟩,.string ⟨#[]⟩,.string ⟨#[]⟩,.bool false] 82))
   refine hK.out _ _ (HSS.out _ HB4.out) (fun hS2=>?_)
   clear hK K hS1 hb3 HB5
   (try simp only [zl1])
   refine zt 10 _ rfl ?_;simp only [zl1];refine zt 11 _ rfl ?_;simp only [zl1];refine zt 12 _ rfl ?_;simp only [zl1]
   have hg8l:wr.heap.size≤wr.heap.size:=zq _
   have b0:W5.cell? ⟨wr.heap.size,0,none⟩=some (.string ⟨#[]⟩):=zw _ _ 0 _ _ _ hz5
   have b1:W5.cell? ⟨wr.heap.size,1,none⟩=some (.int .i64 0):=zw _ _ 1 _ _ _ hz5
   have b2:W5.cell? ⟨wr.heap.size,2,none⟩=some (.int .i64 0):=zw _ _ 2 _ _ _ hz5
   have b3:W5.cell? ⟨wr.heap.size,3,none⟩=some (.int .i64 0):=zw _ _ 3 _ _ _ hz5
   have b4:W5.cell? ⟨wr.heap.size,4,none⟩=some (.slice none 0 0):=zw _ _ 4 _ _ _ hz5
   have b5:W5.cell? ⟨wr.heap.size,5,none⟩=some (.string ⟨#[]⟩):=zw _ _ 5 _ _ _ hz5
   have b6:W5.cell? ⟨wr.heap.size,6,none⟩=some (.string ⟨#[]⟩):=zw _ _ 6 _ _ _ hz5
   have b7:W5.cell? ⟨wr.heap.size,7,none⟩=some (.string ⟨#[]⟩):=zw _ _ 7 _ _ _ hz5
   have b8:W5.cell? ⟨wr.heap.size,8,none⟩=some (.bool false):=zw _ _ 8 _ _ _ hz5
   have F:∀ j,W5.frozen? ⟨wr.heap.size,j,none⟩=false:=fun j=>frozen_of_row _ _ j _ _ hz5
   have f0:=F 0
   have f1:=F 1
   have f2:=F 2
   have f3:=F 3
   have f4:=F 4
   have f5:=F 5
   have f6:=F 6
   have f7:=F 7
   have f8:=F 8
   clear F
   have hgr:=z11 W5 (wr.heap.size) x (.slice ra x.reqs.length rc)
   have hbx:BoxR (setRel W5 (wr.heap.size) x (.slice ra x.reqs.length rc)) (wr.heap.size) x (.slice ra x.reqs.length rc):=z1h x (.slice ra x.reqs.length rc) hz5
   have hbl:Below wr.heap.size wr (setRel W5 (wr.heap.size) x (.slice ra x.reqs.length rc)):=HB4.out.grown hgr HB4.out.size (fun b hb=>by cases hb;omega)
   have hrl:ReqsOf w.heap.size (.slice ra x.reqs.length rc) x.reqs (setRel W5 (wr.heap.size) x (.slice ra x.reqs.length rc)):=HR5.out.below (B':=w.heap.size) ((Below.refl _ _).grown hgr (Nat.le_trans HBW.out.size HB4.out.size) (fun b hb=>by cases hb;have:=HBW.out.size;omega)) (zq _)
   have hss:=HSS.out _ hbl
   have HBX:=zh (And.intro hbx (And.intro hrl hbl))
   unfold setRel at HBX hss
   clear hgr hbx hbl hrl hz5
   refine zr 14 rfl fun K hK=>?_
   go_simp
   refine hK.out _ _ hss (fun hS9=>?_)
   clear hK K hss hS2
   (try simp only [zl1])
   refine zt 15 _ rfl ?_;simp only [zl1]
   refine wpAnyH_done (by kernel_rfl) ?_ _
   refine NoPanic.normal ?_
   go_wp2_with fail
   go_meet
   exact⟨_,ra,rc,rfl,rfl,rfl,rfl,rfl,rfl,HBX⟩
 case rest =>
  obtain⟨g8,ra,rc,rfl,rfl,rfl,rfl,rfl,rfl,HBX⟩:=hcut
  simp only [relC_at]
  have HBC:=zh (HBW.out.trans (HBX.out.2.2.mono HBW.out.size))
  have HKG:Hid (∀ W,Below wc.heap.size wc W→W.cell? ⟨g8,4,none⟩=some (.slice ra x.reqs.length rc)):=zh (fun W hb=>(hb.cell (p:=⟨g8,4,none⟩) (zb HBX.out.1)).trans (zw _ _ 4 _ _ _ HBX.out.1))
  have HRQ:=zh HBX.out.2.1
  have HLQ:Hid (x.reqs.length≤1000000∧∀ q∈x.reqs,q.2.length≤1000000):=zh ⟨HXB.out.len,fun q hq=>(HXB.out.reqs q hq).2⟩
  clear HFY HSS HBX HXB HXF
  generalize x.reqs=L at *
  have hll:=HLQ.out.1
  go_wp2_with fail
  go_loopw [11] (fun q wr=>Hid (∃ (j:Nat),j≤L.length∧q=.int .i64 (j:Int)∧(∀ i,i<j→(!(decide ((L.getD i default).1=p)&&!metB o2.toList (L.getD i default)))=true)∧Below wc.heap.size wc wr)) (fun q _=>L.length - (intOf q).toNat)
  case atStart=>exact zh ⟨0,Nat.zero_le _,rfl,fun i hi=>absurd hi (Nat.not_lt_zero i),Below.refl _ _⟩
  case round =>
   obtain⟨j,hj,rfl,hm,hb⟩:=hrel.out
   have HM:=zh hm
   have HBJ:=zh hb
   have HBT:=zj HBC hb
   have k4:=HKG.out _ hb
   clear hrel hm hb
   by_cases hjl:j<L.length
   case neg =>
    have HVV:Hid (RV=true):=zh (HRV.out.symm.trans <| List.all_eq_true.2 fun q hq=>by
     obtain⟨i,hi,rfl⟩:=List.mem_iff_getElem.1 hq
     have:=HM.out i (by omega)
     rwa [zg,ze hi]at this)
    clear HM
    go_wp2_with fail
    go_ret
    exact⟨by rw [HVV.out];rfl,HBT.out⟩
   have hj0:(0:Int)≤(j:Int):=Int.natCast_nonneg j
   have hjz:(j:Int)<(L.length:Int):=Int.ofNat_lt.2 hjl
   have HQM:Hid (L.getD j default∈L):=zh (by rw [zg,ze hjl];exact List.getElem_mem hjl)
   have hat:∃ b3 off3 r,ra=some ⟨b3,off3,none⟩∧b3<w.heap.size∧wc.cell? ⟨b3,off3+j*2,none⟩=some (.string (L.getD j default).1)∧wc.cell? ⟨b3,off3+j*2+1,none⟩=some r∧SpansOf w.heap.size r (L.getD j default).2 wc:=by
    obtain⟨a,c,e,h⟩:=HRQ.out
    cases e
    exact h j _ (by rw [ze hjl,zg,ze hjl];rfl)
   obtain⟨b3,off3,r,rfl,hl3,e0,e1,hsp⟩:=hat
   have hl4:b3<wc.heap.size:=Nat.lt_of_lt_of_le hl3 HBC.out.size
   have e0:=(HBJ.out.cell (p:=⟨b3,off3+j*2,none⟩) hl4).trans e0
   have e1:=(HBJ.out.cell (p:=⟨b3,off3+j*2+1,none⟩) hl4).trans e1
   have hq9:=HLQ.out.2 _ HQM.out
   obtain⟨sa,sc,rfl⟩:=zo hsp
   have HSQ:=zh (HSA.out (L.getD j default) _ wr hq9 HBT.out ((hsp.below HBJ.out HBC.out.size).mono HBT.out.size))
   have HNX:Hid ((!(decide ((L.getD j default).1=p)&&!metB o2.toList (L.getD j default)))=true→∀ i,i<j+1→(!(decide ((L.getD i default).1=p)&&!metB o2.toList (L.getD i default)))=true):=zh (fun h i hi=>by
    by_cases hij:i<j
    ·exact HM.out i hij
    ·obtain rfl:i=j:=by omega
     exact h)
   have HNO:Hid ((L.getD j default).1=p→metB o2.toList (L.getD j default)=false→RV=false):=zh (fun h1 h2=>by
    rw [← HRV.out,List.all_eq_false]
    refine⟨_,HQM.out,?_⟩
    rw [decide_eq_true h1,h2]
    decide)
   generalize L.getD j default=q at *
   obtain⟨mb,hmb⟩:∃ mb,metB o2.toList q=mb:=⟨_,rfl⟩
   rw [hmb]at HSQ HNX HNO
   clear hmb hsp HM
   by_cases hp:q.1=p
   case neg =>
    have hpb:(q.1.toList == p.toList)=false:=by rw [z0q];exact decide_eq_false hp
    have HN2:=zh (HNX.out (by rw [decide_eq_false hp];rfl))
    clear HNX HNO hp
    go_wp2_with fail
    all_goals
     refine⟨zh ⟨j+1,hjl,by go_num,HN2.out,HBJ.out⟩,?_⟩
     simp [intOf];omega
   have hpb:(q.1.toList == p.toList)=true:=by rw [z0q];exact decide_eq_true hp
   cases mb with
   | false =>
    have HVV:=zh (HNO.out hp rfl)
    clear HNX HNO hp
    go_wp2_with fail
    refine HSQ.out.mono ?_
    rintro e w5 ⟨rfl,hb5⟩
    have HB5:=zj HBT hb5
    clear hb5
    go_wp2_with fail
    go_ret
    exact⟨by rw [HVV.out];rfl,HB5.out⟩
   | true =>
    have HN2:=zh (HNX.out (by simp))
    clear HNX HNO hp
    go_wp2_with fail
    refine HSQ.out.mono ?_
    rintro e w5 ⟨rfl,hb5⟩
    have HB5:=zj HBJ hb5
    clear hb5
    go_wp2_with fail
    all_goals
     refine⟨zh ⟨j+1,hjl,by go_num,HN2.out,HB5.out⟩,?_⟩
     simp [intOf];omega
theorem z8c {X:List RelL}{s o:List SelL}(ho:incrS o)(a b:ByteArray):fitsV X (atS s a) (atS o b) b=!clashB X s a o b:=by
 unfold fitsV clashB reqsS
 cases atS s a with
 | none=>rfl
 | some y =>
  simp only
  rw [List.not_any_eq_all_not]
  congr 1
  funext q
  by_cases hq:q.1=b
  ·have:metB (atS o b).toList q=metB o q:=by
    rw [zdg ho,hq]
    cases h:atS o b with
    | none=>rfl
    | some z =>
     have hz:=(z02 h).2
     unfold metB plc
     simp [hz,hq]
   rw [this]
  ·rw [decide_eq_false hq]
   rfl
theorem z36 {X:List RelL}{s:List SelL}(h:consV X s=0){p:ByteArray}{y:SelL}(hy:atS s p=some y):(findR X y).isSome=true:=(z0b.1 h).found y (z02 hy).1
def needV (X:List RelL)(f t:List SelL)(a b:ByteArray):Bool:=clashB X t a f b||clashB X f b t a
theorem zgi (v iv fv tv:Value)(X:List RelL)(f t:List SelL)(a b:ByteArray)(w:World)(hX:X.length≤1000000)(hq:∀ x∈X,RelBd x)(hR:RelsOf w.heap.size v X w)(hf:f.length≤64)(hF:SelsOf w.heap.size fv f w)(ht:t.length≤64)(hT:SelsOf w.heap.size tv t w)
  (hcf:consV X f=0) (hct:consV X t=0) :
  Calls prog 30 #[.agg #[v,iv],fv,tv,.string a,.string b] w fun e w'=>e=.returned (.bool (needV X f t a b))∧Below w.heap.size w w':=by
 obtain⟨va,vn,vc,rfl⟩:∃ a n c,v=.slice a n c:=by obtain⟨a,c,_,e,_⟩:=hR.rv;exact⟨_,_,_,e⟩
 have hcx:=(z0b.1 hcf).ok
 have HST:=zh (fun W (hb:Below w.heap.size w W)=>z43 tv t a W (by omega) (hT.on hb))
 have HSF:=zh (fun W (hb:Below w.heap.size w W)=>z43 fv f b W (by omega) (hF.on hb))
 have HFT1:=zh (fun W (hb:Below w.heap.size w W) (rv ov:Value) (h1:SelsOf W.heap.size rv (atS t a).toList W) (h2:SelsOf W.heap.size ov (atS f b).toList W)=>zcb (.slice va vn vc) iv rv ov X (atS t a) (atS f b) b W hX hq hcx (hR.on hb) (fun y hy=>z36 hct hy) h1 (fun y hy=>z0y hcx (z36 hcf hy)) h2)
 have HFT2:=zh (fun W (hb:Below w.heap.size w W) (rv ov:Value) (h1:SelsOf W.heap.size rv (atS f b).toList W) (h2:SelsOf W.heap.size ov (atS t a).toList W)=>zcb (.slice va vn vc) iv rv ov X (atS f b) (atS t a) a W hX hq hcx (hR.on hb) (fun y hy=>z36 hcf hy) h1 (fun y hy=>z0y hcx (z36 hct hy)) h2)
 rw [z8c (z0b.1 hcf).incr]at HFT1
 rw [z8c (z0b.1 hct).incr]at HFT2
 have HNV:Hid (needV X f t a b=(clashB X t a f b||clashB X f b t a)):=zh rfl
 generalize clashB X t a f b=x1 at *
 generalize clashB X f b t a=x2 at *
 obtain⟨fa,fn,fc,rfl⟩:∃ a n c,fv=.slice a n c:=by obtain⟨a,c,e,_⟩:=hF;exact⟨a,_,c,e⟩
 obtain⟨ta,tn,tc,rfl⟩:∃ a n c,tv=.slice a n c:=by obtain⟨a,c,e,_⟩:=hT;exact⟨a,_,c,e⟩
 have HB0:=zh (IdxBx.start w (.slice va vn vc) iv)
 clear hR hq hF hT hcf hct hcx
 go_enter func30,ntmps30
 go_upto_region 1 with fail
 generalize w.alloc (.cells #[.slice va vn vc,iv] 25)=W at *
 have HB:=zh (HB0.out.below (show Below W.heap.size W W.drew from(Below.refl _ _).drew))
 clear HB0
 cases x1 with
 | true =>
  have HR:Hid (needV X f t a b=true):=zh (by rw [HNV.out];rfl)
  clear HNV HFT2
  refine wp_region_noPanic ?_
  refine wp_region_held_drew (S:=HeldX w.heap.size (.slice va vn vc) iv) (by kernel_rfl) ⟨HB.out.c0,HB.out.c1⟩ (fun hS0=>?_)
  refine zt 0 _ rfl ?_;simp only [zl1];refine zt 1 _ rfl ?_;simp only [zl1];refine zt 2 _ rfl ?_;simp only [zl1];refine zt 4 _ rfl ?_;simp only [zl1];refine zt 5 _ rfl ?_;simp only [zl1];refine zt 7 _ rfl ?_;simp only [zl1]
  refine zr 3 rfl fun K hK=>?_
  go_simp
  refine(HST.out _ HB.out.bel).mono ?_
  rintro e w1 ⟨rv,rfl,hnx,hbx⟩
  replace HB:=zh (HB.out.below hbx)
  have HS1:=zh hnx
  obtain⟨rva,rvn,rvc,rfl⟩:∃ a n c,rv=.slice a n c:=by obtain⟨a,c,e,_⟩:=hnx;exact⟨a,_,c,e⟩
  clear hS0
  have hS0:=(⟨HB.out.c0,HB.out.c1⟩:HeldX _ _ _ _)
  refine hK.out _ _ hS0 (fun _=>?_)
  clear hK K hbx hnx
  (try simp only [zl1])
  refine zr 6 rfl fun K hK=>?_
  go_simp
  refine(HSF.out _ HB.out.bel).mono ?_
  rintro e w2 ⟨ov,rfl,hnx,hbx⟩
  replace HB:=zh (HB.out.below hbx)
  have HS2:=zh hnx
  obtain⟨ova,ovn,ovc,rfl⟩:∃ a n c,ov=.slice a n c:=by obtain⟨a,c,e,_⟩:=hnx;exact⟨a,_,c,e⟩
  replace HS1:=zh (HS1.out.on hbx)
  clear hS0
  have hS0:=(⟨HB.out.c0,HB.out.c1⟩:HeldX _ _ _ _)
  refine hK.out _ _ hS0 (fun _=>?_)
  clear hK K hbx hnx
  (try simp only [zl1])
  refine zr 8 rfl fun K hK=>?_
  go_simp
  refine(HFT1.out _ HB.out.bel _ _ HS1.out HS2.out).mono ?_
  rintro e w3 ⟨rfl,hbx⟩
  replace HB:=zh (HB.out.below hbx)
  clear hS0
  have hS0:=(⟨HB.out.c0,HB.out.c1⟩:HeldX _ _ _ _)
  refine hK.out _ _ hS0 (fun _=>?_)
  clear hK K hbx
  (try simp only [zl1])
  refine zt 9 _ rfl ?_;simp only [zl1];refine zt 10 _ rfl ?_;simp only [zl1];refine zu 11 rfl ?_;simp only [zl1];refine zu 12 rfl ?_;simp only [zl1];refine zu 13 rfl ?_;simp only [zl1];refine zu 14 rfl ?_;simp only [zl1];refine zu 15 rfl ?_;simp only [zl1];refine zu 16 rfl ?_;simp only [zl1];refine zu 17 rfl ?_;simp only [zl1];refine zu 18 rfl ?_;simp only [zl1];refine zu 19 rfl ?_;simp only [zl1]
  refine zu 20 rfl ?_;simp only [zl1];refine zt 21 _ rfl ?_;simp only [zl1];refine zt 22 _ rfl ?_;simp only [zl1]
  refine wpAnyH_done (by kernel_rfl) ?_ _
  refine NoPanic.normal ?_
  go_wp2_with fail
  go_ret
  exact⟨by rw [HR.out];rfl,HB.out.bel⟩
 | false =>
  have HR:Hid (needV X f t a b=x2):=zh (by rw [HNV.out];rfl)
  clear HNV
  refine wp_region_noPanic ?_
  refine wp_region_held_drew (S:=HeldX w.heap.size (.slice va vn vc) iv) (by kernel_rfl) ⟨HB.out.c0,HB.out.c1⟩ (fun hS0=>?_)
  refine zt 0 _ rfl ?_;simp only [zl1];refine zt 1 _ rfl ?_;simp only [zl1];refine zt 2 _ rfl ?_;simp only [zl1];refine zt 4 _ rfl ?_;simp only [zl1];refine zt 5 _ rfl ?_;simp only [zl1];refine zt 7 _ rfl ?_;simp only [zl1]
  refine zr 3 rfl fun K hK=>?_
  go_simp
  refine(HST.out _ HB.out.bel).mono ?_
  rintro e w1 ⟨rv,rfl,hnx,hbx⟩
  replace HB:=zh (HB.out.below hbx)
  have HS1:=zh hnx
  obtain⟨rva,rvn,rvc,rfl⟩:∃ a n c,rv=.slice a n c:=by obtain⟨a,c,e,_⟩:=hnx;exact⟨a,_,c,e⟩
  clear hS0
  have hS0:=(⟨HB.out.c0,HB.out.c1⟩:HeldX _ _ _ _)
  refine hK.out _ _ hS0 (fun _=>?_)
  clear hK K hbx hnx
  (try simp only [zl1])
  refine zr 6 rfl fun K hK=>?_
  go_simp
  refine(HSF.out _ HB.out.bel).mono ?_
  rintro e w2 ⟨ov,rfl,hnx,hbx⟩
  replace HB:=zh (HB.out.below hbx)
  have HS2:=zh hnx
  obtain⟨ova,ovn,ovc,rfl⟩:∃ a n c,ov=.slice a n c:=by obtain⟨a,c,e,_⟩:=hnx;exact⟨a,_,c,e⟩
  replace HS1:=zh (HS1.out.on hbx)
  clear hS0
  have hS0:=(⟨HB.out.c0,HB.out.c1⟩:HeldX _ _ _ _)
  refine hK.out _ _ hS0 (fun _=>?_)
  clear hK K hbx hnx
  (try simp only [zl1])
  refine zr 8 rfl fun K hK=>?_
  go_simp
  refine(HFT1.out _ HB.out.bel _ _ HS1.out HS2.out).mono ?_
  rintro e w3 ⟨rfl,hbx⟩
  replace HB:=zh (HB.out.below hbx)
  clear hS0
  have hS0:=(⟨HB.out.c0,HB.out.c1⟩:HeldX _ _ _ _)
  refine hK.out _ _ hS0 (fun _=>?_)
  clear hK K hbx
  (try simp only [zl1])
  refine zt 9 _ rfl ?_;simp only [zl1];refine zt 10 _ rfl ?_;simp only [zl1];refine zt 11 _ rfl ?_;simp only [zl1];refine zt 12 _ rfl ?_;simp only [zl1];refine zt 13 _ rfl ?_;simp only [zl1];refine zt 15 _ rfl ?_;simp only [zl1];refine zt 16 _ rfl ?_;simp only [zl1];refine zt 18 _ rfl ?_;simp only [zl1]
  refine zr 14 rfl fun K hK=>?_
  go_simp
  refine(HSF.out _ HB.out.bel).mono ?_
  rintro e w4 ⟨rv2,rfl,hnx,hbx⟩
  replace HB:=zh (HB.out.below hbx)
  have HS3:=zh hnx
  obtain⟨rv2a,rv2n,rv2c,rfl⟩:∃ a n c,rv2=.slice a n c:=by obtain⟨a,c,e,_⟩:=hnx;exact⟨a,_,c,e⟩
  clear hS0
  have hS0:=(⟨HB.out.c0,HB.out.c1⟩:HeldX _ _ _ _)
  refine hK.out _ _ hS0 (fun _=>?_)
  clear hK K hbx hnx
  (try simp only [zl1])
  refine zr 17 rfl fun K hK=>?_
  go_simp
  refine(HST.out _ HB.out.bel).mono ?_
  rintro e w5 ⟨ov2,rfl,hnx,hbx⟩
  replace HB:=zh (HB.out.below hbx)
  have HS4:=zh hnx
  obtain⟨ov2a,ov2n,ov2c,rfl⟩:∃ a n c,ov2=.slice a n c:=by obtain⟨a,c,e,_⟩:=hnx;exact⟨a,_,c,e⟩
  replace HS3:=zh (HS3.out.on hbx)
  clear hS0
  have hS0:=(⟨HB.out.c0,HB.out.c1⟩:HeldX _ _ _ _)
  refine hK.out _ _ hS0 (fun _=>?_)
  clear hK K hbx hnx
  (try simp only [zl1])
  refine zr 19 rfl fun K hK=>?_
  go_simp
  refine(HFT2.out _ HB.out.bel _ _ HS3.out HS4.out).mono ?_
  rintro e w6 ⟨rfl,hbx⟩
  replace HB:=zh (HB.out.below hbx)
  clear hS0
  have hS0:=(⟨HB.out.c0,HB.out.c1⟩:HeldX _ _ _ _)
  refine hK.out _ _ hS0 (fun _=>?_)
  clear hK K hbx
  (try simp only [zl1])
  refine zt 20 _ rfl ?_;simp only [zl1];refine zt 21 _ rfl ?_;simp only [zl1];refine zt 22 _ rfl ?_;simp only [zl1]
  refine wpAnyH_done (by kernel_rfl) ?_ _
  refine NoPanic.normal ?_
  go_wp2_with fail
  go_ret
  exact⟨by rw [HR.out];first | rfl | (cases x2<;>rfl),HB.out.bel⟩
theorem z8y (sv:Value)(s:List SelL)(w:World)(hs:s.length≤64)(hv:∀ y∈s,validB y.2.1 y.2.2.1 y.2.2.2=true)(hi:incrS s)(hS:SelsOf w.heap.size sv s w) :
  Calls prog 57 #[sv] w fun e w'=>e=.returned (.bool true)∧Below w.heap.size w w':=by
 have HIC:=zh (fun W (hb:Below w.heap.size w W)=>zc5 sv s W (by omega) (hS.on hb))
 have HV:=zh hv
 have HIN:=zh hi
 obtain⟨so,sc,rfl⟩:=zo hS
 have HS:=zh hS
 clear hS hv hi
 go_enter func57,ntmps57
 go_wp2_with fail
 go_loopw [3] (fun p wr=>Hid (∃ k:Nat,k≤s.length∧p=.int .i64 (k:Int)∧Below w.heap.size w wr)) (fun p _=>s.length - (intOf p).toNat)
 case atStart=>exact zh ⟨0,Nat.zero_le _,rfl,Below.refl _ _⟩
 case round =>
  obtain⟨k,hk,rfl,hb⟩:=hrel.out
  have HB:=zh hb
  clear hrel hb
  by_cases hlt:k<s.length
  case neg =>
   go_wp2_with fail
   refine(HIC.out _ HB.out).mono ?_
   rintro e w1 ⟨b,rfl,hbi,hb1⟩
   obtain rfl:b=true:=hbi.2 HIN.out
   have HB1:=zj HB hb1
   clear hbi hb1
   go_wp2_with fail
   go_ret
   exact⟨rfl,HB1.out⟩
  case pos =>
   have hk0:(0:Int)≤(k:Int):=Int.natCast_nonneg k
   have hkz:(k:Int)<(s.length:Int):=Int.ofNat_lt.2 hlt
   obtain⟨b,off,rfl,hlb,d0,d1,d2,d3⟩:=z34 HS.out hlt
   have d1:=(HB.out.cell (p:=⟨b,off+k*4+1,none⟩) hlb).trans d1
   have d2:=(HB.out.cell (p:=⟨b,off+k*4+2,none⟩) hlb).trans d2
   have d3:=(HB.out.cell (p:=⟨b,off+k*4+3,none⟩) hlb).trans d3
   have hv:=HV.out _ (List.getElem_mem hlt)
   generalize s[k]=y at *
   have hco:=z8v y.2.1 y.2.2.1 y.2.2.2 wr
   rw [hv]at hco
   have HCO:=zh hco
   clear hco hv d0
   go_wp2_with fail
   refine HCO.out.mono ?_
   rintro e w1 ⟨rfl,rfl⟩
   have HB1:=zh (HB.out.trans ((belQ wr (.cells #[.int .i64 y.2.1,.int .i64 y.2.2.1,.int .i64 y.2.2.2] 51)).mono HB.out.size))
   go_wp2_with fail
   all_goals
    refine⟨zh ⟨k+1,hlt,by go_num,HB1.out⟩,?_⟩
    simp [intOf];omega
theorem zip {B:Nat}{ao:Option Addr}{cap:Nat}{L:List ByteArray}{W:World}(h:RowOf Value.string B (.slice ao L.length cap) L W){k:Nat}(hk:k<L.length) :
  ∃ b off,ao=some ⟨b,off,none⟩∧b<B∧W.cell? ⟨b,off+k,none⟩=some (.string L[k]):=by
 rcases h with ⟨rfl,_⟩ | ⟨b,off,c,e,hb,h⟩
 ·simp at hk
 ·cases e
  exact⟨b,off,rfl,hb,h k _ (ze hk)⟩
theorem z42 (v:Value)(L:List ByteArray)(p:ByteArray)(w:World)(hl:L.length≤1000000000)(hL:RowOf Value.string w.heap.size v L w) :
  Calls prog 46 #[v,.string p] w fun e w'=>e=.returned (.bool (decide (p∈L)))∧Below w.heap.size w w':=by
 obtain⟨la,lc,rfl,_⟩:=z01 hL
 have HL:=zh hL
 obtain⟨R,hR⟩:∃ R,decide (p∈L)=R:=⟨_,rfl⟩
 have HR:=zh hR
 rw [hR]
 clear hL hR
 go_enter func46,ntmps46
 go_wp2_with fail
 go_loopw [5] (fun q wr=>Hid (∃ k:Nat,k≤L.length∧q=.int .i64 (k:Int)∧(∀ j (hj:j<L.length),j<k→L[j]≠p)∧Below w.heap.size w wr)) (fun q _=>L.length - (intOf q).toNat)
 case atStart=>exact zh ⟨0,Nat.zero_le _,rfl,(fun j _ hj=>absurd hj (Nat.not_lt_zero j)),Below.refl _ _⟩
 case round =>
  obtain⟨k,hk,rfl,hn,hb⟩:=hrel.out
  have HN:=zh hn
  have HB:=zh hb
  clear hrel hn hb
  by_cases hlt:k<L.length
  case neg =>
   have HV:Hid (R=false):=zh (HR.out.symm.trans (decide_eq_false fun h=>by
    obtain⟨j,hj,e⟩:=List.mem_iff_getElem.1 h
    exact HN.out j hj (by omega) e))
   clear HN HR
   go_wp2_with fail
   go_ret
   exact⟨by rw [HV.out];rfl,HB.out⟩
  case pos =>
   have hk0:(0:Int)≤(k:Int):=Int.natCast_nonneg k
   have hkz:(k:Int)<(L.length:Int):=Int.ofNat_lt.2 hlt
   obtain⟨b,off,rfl,hlb,d0⟩:=zip HL.out hlt
   have d1:=(HB.out.cell (p:=⟨b,off+k,none⟩) hlb).trans d0
   by_cases hp:L[k]=p
   case pos =>
    have HV:Hid (R=true):=zh (HR.out.symm.trans (decide_eq_true (by rw [← hp];exact List.getElem_mem hlt)))
    have hpb:(L[k].toList == p.toList)=true:=by rw [z0q];exact decide_eq_true hp
    generalize L[k]=x at *
    clear HN HR hp d0
    go_wp2_with fail
    go_ret
    exact⟨by rw [HV.out];rfl,HB.out⟩
   case neg =>
    have HN2:Hid (∀ j (hj:j<L.length),j<k+1→L[j]≠p):=zh (fun j hj hjk e=>by
     by_cases h:j<k
     ·exact HN.out j hj h e
     ·obtain rfl:j=k:=by omega
      exact hp e)
    have hpb:(L[k].toList == p.toList)=false:=by rw [z0q];exact decide_eq_false hp
    generalize L[k]=x at *
    clear HN HR hp d0
    go_wp2_with fail
    all_goals
     refine⟨zh ⟨k+1,hlt,by go_num,HN2.out,HB.out⟩,?_⟩
     simp [intOf];omega
def HeldN (gg b o b2 o2 b3 o3:Nat)(nv rv:Value)(n:Nat)(p:ByteArray)(W:World):Prop:=W.cell? ⟨gg,0,none⟩=some nv∧W.cell? ⟨b,o,none⟩=some rv∧W.cell? ⟨b2,o2,none⟩=some (natC n)∧W.cell? ⟨b3,o3,none⟩=some (.string p)
section
open Go.Proofs.Tryz Go Go.RowKit Go.Shelf Go.Lib
def edgeC (x:Int×Int):List Value:=[.int .i64 x.1,.int .i64 x.2]
end
section
open Go.Proofs.Tryz Go Go.RowKit Go.Shelf Go.Lib
def edgeRenW:Ren:=⟨fun _=>16,fun x=>if x=0 then 0 else if x=3 then 3 else if x=4 then 4 else if x=22 then 30 else 43,fun x=>x⟩
theorem ziw (x y:SelL)(w:World):(binOp .eql 53 (.agg (selC x).toArray) (.agg (selC y).toArray)).run prog w=.ok (.bool (decide (x=y))) w:=by
 have hS:prog.underlying 53=some (.struct (prog.fieldsOf 53)):=by kernel_rfl
 have hp:prog.stoodInHeld 53=false:=by kernel_rfl
 simp only [selC]
 rw [run_eql_struct,show(10000:Nat)=9999+1 from rfl,run_equalIn_agg w 9999 53 _ _ hS hp]
 clear hS hp
 obtain⟨d,hd⟩:∃ d,(9999:Nat)=d+9:=⟨9990,rfl⟩
 rw [hd]
 clear hd
 have u9:=underlying9
 have a9:=isAgg9
 have z9:=sizeOf9
 have a4:=isAgg51
 have z4:=sizeOf51
 have hv:=z53
 simp only [Program.fieldsOf,underlying53]
 go_simp
 obtain⟨xp,x1,x2,x3⟩:=x
 obtain⟨yp,y1,y2,y3⟩:=y
 by_cases h0:xp.toList=yp.toList
 ·have h0':=z3e h0
  subst h0'
  by_cases h1:x1=y1<;>by_cases h2:x2=y2<;>by_cases h3:x3=y3<;>simp [h1,h2,h3]
 ·have h0':¬ xp=yp:=fun e=>h0 (by rw [e])
  simp [h0,h0']
end
end Go.Proofs.YtapbhoodgnmnkaaGreatDoor
