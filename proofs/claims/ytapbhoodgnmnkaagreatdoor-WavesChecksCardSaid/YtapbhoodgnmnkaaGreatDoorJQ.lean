/- Laws and contracts. -/
import Derived.Test.YtapbhoodgnmnkaaGreatDoorJP
import Derived.Test.YtapbhoodgnmnkaaGreatDoorMore2
set_option linter.unusedVariables false
set_option linter.unusedSimpArgs false
set_option maxRecDepth 100000
set_option maxHeartbeats 32000000
namespace Go.Proofs.YtapbhoodgnmnkaaGreatDoor
open Go.Proofs.Tryz Go Go.RowKit
theorem zm5 {α:Type}(f:α→α)(l:List α)(k:Nat)(h:k<l.length):((l.take k).map f++l.drop k).set k (f l[k])=(l.take (k+1)).map f++l.drop (k+1):=by
 rw [List.set_append_right _ _ (by simp;omega),List.length_map,List.length_take,Nat.min_eq_left (by omega),Nat.sub_self,List.drop_eq_getElem_cons h,List.set_cons_zero,zs h,List.map_append,List.append_assoc]
 rfl
theorem Grid.low {B g:Nat}{v:Value}{vs:List Value}{L:List (List Value)}{W:World}(h:Grid B v vs L W)(hg:g<B)(j:Nat)(x:Value):Grid B v vs L (W.setCell ⟨g,j,none⟩ x) :=
 h.keep (by rw [World.size_setCell];exact zq _) (fun b hb=>heap_setCell_other _ _ _ _ (fun e=>by have e:b=g:=e;have:=(h.top.lt b hb).1;omega))
  (fun i u b hu hb=>heap_setCell_other _ _ _ _ (fun e=>by
   have e:b=g:=e
   have h1:=(zc hu)
   have h2:=h.len
   have:=((h.row i u _ hu (ze (by omega))).lt b hb).1
   omega))
theorem Grid.drew {B:Nat}{v:Value}{vs:List Value}{L:List (List Value)}{W:World}(h:Grid B v vs L W):Grid B v vs L W.drew:=⟨h.top,h.row,h.apart,h.base⟩
theorem FrE.drew {B g:Nat}{W0 W:World}(h:FrE B g W0 W):FrE B g W0 W.drew:=⟨h.o,h.t,h.u,h.size,h.blk⟩
def RowsFrom (B:Nat)(v:Value)(S:List (List Nat))(W:World):Prop :=
 ∃ ao cap,v=.slice ao S.length cap∧∀ i l,S[i]? = some l→∃ b off r,ao=some ⟨b,off,none⟩∧B≤b∧b<W.heap.size∧W.cell? ⟨b,off+i,none⟩=some r∧∃ ra rc,r=.slice ra l.length rc ∧
  ∀ j x,l[j]? = some x→∃ rb ro,ra=some ⟨rb,ro,none⟩∧B≤rb∧rb<W.heap.size∧W.cell? ⟨rb,ro+j,none⟩=some (natC x)
theorem Grid.from {B:Nat}{v:Value}{vs:List Value}{S:List (List Nat)}{W:World}(h:Grid B v vs (S.map (·.map natC)) W):RowsFrom B v S W:=by
 have ht:=h.top
 rw [List.length_map]at ht
 obtain⟨a,c,rfl⟩:=z05 ht
 refine⟨a,c,rfl,fun i l hl=>?_⟩
 have hi:=(zc hl)
 obtain⟨g,cap,hv,hb,hg,_⟩:=z1a ht (by omega)
 cases hv
 obtain⟨u,hu⟩:∃ u,vs[i]? = some u:=⟨vs[i]'(by have:=h.len;rw [List.length_map]at this;omega),by simp⟩
 have hr:=h.row i u (l.map natC) hu (by rw [List.getElem?_map,hl];rfl)
 rw [List.length_map]at hr
 obtain⟨ra,rc,rfl⟩:=z05 hr
 refine⟨g,0,_,rfl,hb,hg,by rw [Nat.zero_add];exact z0o ht i _ hu,ra,rc,rfl,fun j x hx=>?_⟩
 have hj:=(zc hx)
 obtain⟨g2,cap2,hv2,hb2,hg2,_⟩:=z1a hr (by omega)
 cases hv2
 exact⟨g2,0,rfl,hb2,hg2,by rw [Nat.zero_add];exact z0o hr j _ (by rw [List.getElem?_map,hx];rfl)⟩
theorem RowsFrom.mono {B B':Nat}{v:Value}{S:List (List Nat)}{W:World}(h:RowsFrom B v S W)(hB:B'≤B):RowsFrom B' v S W:=by
 obtain⟨ao,cap,rfl,h⟩:=h
 refine⟨ao,cap,rfl,fun i l hl=>?_⟩
 obtain⟨b,off,r,rfl,h1,h2,h3,ra,rc,rfl,h4⟩:=h i l hl
 refine⟨b,off,_,rfl,Nat.le_trans hB h1,h2,h3,ra,rc,rfl,fun j x hx=>?_⟩
 obtain⟨rb,ro,rfl,h5,h6,h7⟩:=h4 j x hx
 exact⟨rb,ro,rfl,Nat.le_trans hB h5,h6,h7⟩
theorem zfl (nv ev:Value)(ns:List ByteArray)(es:List (Int×Int))(w:World)(hE:EdgesOf w.heap.size ev es w)(hN:RowOf Value.string w.heap.size nv ns w)(hval:validG ns.length es=true)(hco:Numbered ns.length es) :
  Calls prog 35 #[.agg #[nv,ev]] w fun e w'=>∃ v,e=.returned v∧RowsOf w'.heap.size v (levelsG ns.length es) w'∧RowsFrom w.heap.size v (levelsG ns.length es) w'∧Below w.heap.size w w':=by
 obtain⟨hNn,hNe⟩:=z6f hval
 have hN0:=hN
 obtain⟨na,nc,rfl,_⟩:=z01 hN
 have hb1:Below w.heap.size w (w.alloc (.cells #[.slice na ns.length nc,ev] 32)):=(Below.refl _ _).alloc (zq _) _
 have hx:=z82 na ns.length nc _ es _ (by omega) ((hE.below hb1 (zq _)).mono hb1.size)
 rw [hval]at hx
 have hE0:=hE
 obtain⟨ao,ec,rfl,_⟩:=hE
 have HX:=zh hx
 have HB1:=zh hb1
 have HV:=zh hval
 have HE:=zh hE0
 have HN:=zh hN0
 have HCO:=zh hco
 obtain⟨hcl,hct⟩:=zj8 ns.length es
 clear hx hb1 hval hN hE0 hN0 hco
 obtain⟨i1,hi1',hy0,hy1,hy2⟩:=info_parts z4n
 go_enter func35,ntmps35
 go_wp2_with fail
 refine HX.out.mono ?_
 rintro e w1 ⟨rfl,hb⟩
 have hs1:=hb.size
 simp only [World.size_alloc]at hs1
 have hblk:=(hb.block w.heap.size (by simp)).trans (zn w _)
 have hg0:w1.cell? ⟨w.heap.size,0,none⟩=some (.slice na ns.length nc):=zw _ _ 0 _ _ _ hblk
 have hg1:w1.cell? ⟨w.heap.size,1,none⟩=some (.slice ao es.length ec):=zw _ _ 1 _ _ _ hblk
 have HW1:=zh (HB1.out.trans (hb.mono (by simp)))
 have hcond:=z4f (.slice na ns.length nc) (.slice ao es.length ec) ns es w1 ((HE.out.below HW1.out (zq _)).mono (by omega)) ((HN.out.below HW1.out (zq _)).mono (by omega)) HV.out HCO.out hcl hct
 have HCOND:=zh hcond
 clear hb hblk hcond
 go_wp2_with fail
 refine HCOND.out.mono ?_
 rintro e w2 ⟨v1,v2,rfl,hr1,hr2,hb2⟩
 have hs2:=hb2.size
 have hr1':RowsOf w2.heap.size v1 (nodesG ns.length es) w2:=hr1
 have hr2':RowsOf w2.heap.size v2 (condG ns.length es) w2:=hr2
 have HW2:=zh (HW1.out.trans (hb2.mono (by omega)))
 have hnl:=z5h HCO.out
 obtain⟨i0,hi0',hz0,hz1,hz2⟩:=info_parts z1l
 have hNN:=Nat.mul_le_mul hNn hNn
 have hcrl:=(z0s ns.length es).2
 have hcn:=(z0s ns.length es).1
 have hclt:=zed HCO.out
 have hpos:∀ i,i<(nodesG ns.length es).length→0<((nodesG ns.length es).getD i []).length:=zee HCO.out ns.length (zq _)
 have hmk:=z78 (nodesG ns.length es).length (by omega)
 have hb2a:Below w2.heap.size w2 (w2.alloc (.cells (Array.replicate (nodesG ns.length es).length (.int .i64 0)) 3)):=z0v _ _
 have hlist:=z8k v2 (condG ns.length es) (w2.alloc (.cells (Array.replicate (nodesG ns.length es).length (.int .i64 0)) 3)) ((hr2'.below hb2a (zq _)).mono hb2a.size) (by rw [hcn];omega) (fun a=>by have:=hcrl a;omega) hclt
 have hln:=z1m (condG ns.length es)
 have hlt0:=zet (condG ns.length es)
 rw [hcn]at hln hlt0
 rw [hln]at hlist
 have hinv:=zi6 (M:=(nodesG ns.length es).length) (R:=ns.length*ns.length) (N:=ns.length) (S:=condG ns.length es) (nd:=nodesG ns.length es) rfl (fun a j hj=>by have:=hclt a j hj;rw [hcn]at this;exact this) hcrl hnl.2 (listF (condG ns.length es)) hlt0
 have HLV:Hid (levelsG ns.length es=(lvrun (condG ns.length es) (nodesG ns.length es) (listF (condG ns.length es))).2.map sortN):=zh rfl
 have hl0:Ints (w2.alloc (.cells (Array.replicate (nodesG ns.length es).length (.int .i64 0)) 3)) w2.heap.size (List.replicate (nodesG ns.length es).length 0):=by
  refine(zn w2 _).trans ?_
  simp
 obtain⟨va1,vc1,hv1⟩:∃ a c,v1=.slice a (nodesG ns.length es).length c:=by
  rcases hr1' with ⟨h0,a,c,rfl⟩ | ⟨b,off,cap,rfl,_⟩
  ·exact⟨a,c,by rw [h0];rfl⟩
  ·exact⟨_,cap,rfl⟩
 obtain⟨va2,vc2,hv2⟩:∃ a c,v2=.slice a (nodesG ns.length es).length c:=by
  rw [← hcn]
  rcases hr2' with ⟨h0,a,c,rfl⟩ | ⟨b,off,cap,rfl,_⟩
  ·exact⟨a,c,by rw [h0];rfl⟩
  ·exact⟨_,cap,rfl⟩
 have HR1:=zh hr1'
 have HR2:=zh hr2'
 have HINV:=zh hinv
 have HLT:=zh hlt0
 have HPOS:=zh hpos
 have HNL:=zh hnl.2
 have hnd1:=hnl.1
 have HCRL:=zh hcrl
 have HCN:=zh hcn
 have HCLT:=zh hclt
 have HL0:=zh hl0
 have HB2A:=zh hb2a
 clear hr1 hr2 hr1' hr2' hb2 hg0 hg1 hinv hlt0 hpos hnl hl0 hb2a hcrl hcn hclt
 generalize listF (condG ns.length es)=L at *
 generalize condG ns.length es=Sc at *
 generalize nodesG ns.length es=nd at *
 subst hv1
 subst hv2
 have HLIST:=zh hlist
 clear hlist
 go_wp2_with fail
 refine HLIST.out.mono ?_
 rintro e w3 ⟨u,rfl,hou,hb3⟩
 obtain⟨ua,uc,rfl⟩:=z05 hou
 have hs3:=hb3.size
 rw [World.size_alloc]at hs3
 have hbx:Below w2.heap.size w2 w3:=HB2A.out.trans (hb3.mono (by rw [World.size_alloc];omega))
 have HR3:Hid (RowsOf w2.heap.size (.slice va1 nd.length vc1) nd w3):=zh (HR1.out.below hbx (zq _))
 have HS3:Hid (RowsOf w2.heap.size (.slice va2 nd.length vc2) Sc w3):=zh (HR2.out.below hbx (zq _))
 have HI3:Hid (Ints w3 w2.heap.size (List.replicate nd.length 0)):=zh ((hb3.block _ (by simp)).trans HL0.out)
 have HW3:=zh (HW2.out.trans (hbx.mono (by omega)))
 have HU:=zh hou
 clear hou hb3 HLIST HCOND hmk hbx
 have hndl:nd.length≤1024:=by omega
 go_wp2_with fail
 go_loopw [6,26] (fun o q wr=>∃ (k:Nat) (vs:List Value),k≤nd.length∧q=.int .i64 k∧Hid (Grid w3.heap.size o vs ((lvrun Sc nd (L.take k)).2.map (·.map natC)) wr)∧Hid (Ints wr w2.heap.size (lvrun Sc nd (L.take k)).1)∧Hid (FrE w3.heap.size w2.heap.size w3 wr)) (fun _ q _=>nd.length - (intOf q).toNat)
 case atStart=>exact⟨0,[],by omega,rfl,zh ⟨World.ownsRow_nil _ _ _ _,(fun i u l hu _=>by cases hu),(fun i j u u' b hu=>by cases hu),zq _⟩,HI3,zh (FrE.refl _ _ _)⟩
 case round =>
  clear HI3
  obtain⟨k,vs,hk,rfl,HG,HI,HF⟩:=hrel
  have hsb:=HF.out.size
  have hin:=HINV.out k (by omega)
  obtain⟨oa,oc,hoe⟩:=HG.out.shape
  rw [List.length_map]at hoe
  subst hoe
  by_cases hlt:k<nd.length
  ·have hk0:(0:Int)≤(k:Int):=by omega
   have hk1:(k:Int)<(nd.length:Int):=by omega
   have hLl:k<L.length:=by omega
   have hcU:∀ j x,(L.map natC)[j]? = some x→∃ g,(ua=some ⟨g,0,none⟩∧w2.heap.size+1≤g∧g<w3.heap.size∧w3.cell? ⟨g,j,none⟩=some x):=fun j x hx=>by
    obtain⟨g,cap,hv,hgb,hg,_⟩:=z1a HU.out (by omega)
    rw [World.size_alloc]at hgb
    cases hv
    exact⟨g,rfl,hgb,hg,z0o HU.out j x hx⟩
   obtain⟨g,rfl,hgb,hgl,hcg⟩:=hcU k (natC L[k]) (by rw [List.getElem?_map,ze hLl];rfl)
   have hcg:wr.cell? ⟨g,k,none⟩=some (natC L[k]):=(World.cell?_of_block (HF.out.blk g hgl (by omega))).trans hcg
   have hcl2:L[k]<nd.length:=HLT.out _ (List.getElem_mem hLl)
   have HTK:Hid (lvrun Sc nd (L.take (k+1))=lvadd Sc nd (lvrun Sc nd (L.take k)) L[k]):=zh (by
    unfold lvrun
    rw [zs hLl,List.foldl_append]
    rfl)
   generalize L[k]=c at *
   have hc0:(0:Int)≤(c:Int):=by omega
   have hc1:(c:Int)<(nd.length:Int):=by omega
   have hkR:k*(ns.length*ns.length)≤1073741824:=by
    have:=Nat.mul_le_mul (show k≤1024 by omega) (show ns.length*ns.length≤1048576 by omega)
    omega
   have hkN:k*ns.length≤1048576:=by
    have:=Nat.mul_le_mul (show k≤1024 by omega) hNn
    omega
   have hlv0:=hin.len
   have hlvb:=hin.lv
   have hout0:=hin.out
   have hrow0:=hin.row
   obtain⟨lv0,hlve⟩:∃ x,x=(lvrun Sc nd (L.take k)).1:=⟨_,rfl⟩
   obtain⟨out0,hote⟩:∃ x,x=(lvrun Sc nd (L.take k)).2:=⟨_,rfl⟩
   have HTK2:Hid (lvrun Sc nd (L.take (k+1))=lvadd Sc nd (lv0,out0) c):=zh (by rw [HTK.out,hlve,hote])
   rw [← hlve]at hlv0 hlvb HI
   rw [← hote]at hout0 hrow0 HG ⊢
   clear hlve hote HTK hin
   have hRS:RowsOf w2.heap.size (.slice va2 nd.length vc2) Sc wr:=HS3.out.below (HF.out.to (zq _) (by omega)) (zq _)
   obtain⟨b,off,cap,hva,hbw,hrow⟩:∃ b off cap,(.slice va2 nd.length vc2:Value)=.slice (some ⟨b,off,none⟩) nd.length cap∧b<w2.heap.size∧∀ i l,Sc[i]? = some l→∃ r,wr.cell? ⟨b,off+i,none⟩=some r∧RowOf natC w2.heap.size r l wr:=by
    rcases hRS with ⟨h,_⟩ | ⟨b,off,cap,h1,h2,h3⟩
    ·have:=HCN.out;rw [h]at this;simp at this;omega
    ·rw [HCN.out]at h1;exact⟨b,off,cap,h1,h2,h3⟩
   cases hva
   have hgS:Sc.getD c []=Sc[c]'(by rw [HCN.out];exact hcl2):=by rw [zg,ze (by rw [HCN.out];exact hcl2)];rfl
   obtain⟨r,hcr,hrr⟩:=hrow c (Sc.getD c []) (by rw [hgS];simp)
   have hrl:=HCRL.out c
   have hrlt:=HCLT.out c
   rw [HCN.out]at hrlt
   obtain⟨sr,hsre⟩:∃ x,x=Sc.getD c []:=⟨_,rfl⟩
   have HSR:=zh hsre
   rw [← hsre]at hrr hrl hrlt
   clear hsre hgS hrow hcU
   obtain⟨ra,rc,rfl,hrc⟩:=z01 hrr
   have HRC:=zh hrc
   have HRLT:=zh hrlt
   have HLVB:=zh hlvb
   have HROW:=zh hrow0
   clear hrr hrc hRS hrlt hlvb hrow0
   go_wp2_with fail
   obtain⟨wo,rfl⟩:∃ wo:World,wo=wr:=⟨_,rfl⟩
   go_loopw [35] (fun q wr=>∃ j:Nat,j≤sr.length∧q=.int .i64 j∧Hid (Ints wr w2.heap.size ((sr.take j).foldl (lvstep c) lv0))∧Hid (Grid w3.heap.size (.slice oa out0.length oc) vs (out0.map (·.map natC)) wr)∧Hid (FrE w3.heap.size w2.heap.size w3 wr)∧Hid (Below w2.heap.size wo wr)) (fun q _=>sr.length - (intOf q).toNat)
   case atStart=>exact⟨0,by omega,rfl,HI,HG,HF,zh (Below.refl _ _)⟩
   case round =>
    clear HI HG HF
    obtain⟨j,hj,rfl,HI2,HG2,HF2,HB2⟩:=hrel
    have hsr:=HF2.out.size
    by_cases hjl:j<sr.length
    ·have hj0:(0:Int)≤(j:Int):=by omega
     have hj1:(j:Int)<(sr.length:Int):=by omega
     obtain⟨b2,off2,rfl,hb2,hcd⟩:=HRC.out j sr[j] (by simp [hjl])
     have hcd:=(HB2.out.cell (p:=⟨b2,off2+j,none⟩) hb2).trans hcd
     have hdl:=HRLT.out _ (List.getElem_mem hjl)
     have HT:Hid ((sr.take (j+1)).foldl (lvstep c) lv0=lvstep c ((sr.take j).foldl (lvstep c) lv0) sr[j]):=zh (by
      rw [zs hjl,List.foldl_append]
      rfl)
     obtain⟨q1,q2⟩:=z3y (B:=ns.length*ns.length) hcl2 (sr.take j) lv0 (k*(ns.length*ns.length)) hlv0 (fun d hd=>HRLT.out d (List.mem_of_mem_take hd)) HLVB.out (by rw [List.length_take];omega)
     rw [List.length_take]at q2
     generalize (sr.take j).foldl (lvstep c) lv0=lv at *
     generalize sr[j]=d at *
     have hd0:(0:Int)≤(d:Int):=by omega
     have hd1:(d:Int)<(nd.length:Int):=by omega
     have hcc:=HI2.out.cell c _ (z0z (by omega))
     have hce:=HI2.out.cell d _ (z0z (by omega))
     have hfc:wr.frozen? ⟨w2.heap.size,c,none⟩=false:=frozen_of_row _ _ c _ _ HI2.out
     have qd:=q2 d hdl
     obtain⟨lc,hlc⟩:∃ x,x=gD lv c:=⟨_,rfl⟩
     obtain⟨ld,hld⟩:∃ x,x=gD lv d:=⟨_,rfl⟩
     rw [← hlc]at hcc
     rw [← hld]at hce qd
     have HLC:=zh hlc
     have HLD:=zh hld
     have hwd:IntKind.i64.wrap (ld+1)=ld+1:=IntWalk.i64_in _ (by omega)
     clear hlc hld q1 q2 qd
     go_wp2_with fail
     have hHC:HeldC ⟨w2.heap.size,c,none⟩ ⟨w2.heap.size,d,none⟩ (intC lc) (intC ld) wr.drew:=⟨hcc,hce⟩
     refine z0j (S:=HeldC ⟨w2.heap.size,c,none⟩ ⟨w2.heap.size,d,none⟩ (intC lc) (intC ld)) 12 (by kernel_rfl) (by kernel_rfl) ?_
     simp only [List.take_succ_cons,List.take_zero]
     refine zt 0 _ rfl ?_;simp only [zl1];refine zt 1 _ rfl ?_;simp only [zl1];refine zt 2 _ rfl ?_;simp only [zl1];refine zt 3 _ rfl ?_;simp only [zl1];refine zt 4 _ rfl ?_;simp only [zl1];refine zt 5 _ rfl ?_;simp only [zl1];refine zt 6 _ rfl ?_;simp only [zl1];refine zt 7 _ rfl ?_;simp only [zl1];refine zt 8 _ rfl ?_;simp only [zl1];refine zt 9 _ rfl ?_;simp only [zl1];refine zt 10 _ rfl ?_;simp only [zl1]
     refine zt 11 _ rfl ?_;simp only [zl1]
     refine wpAnyH_done (by kernel_rfl) ?_ _
     show wpList _ _ _ _ _ _
     simp only [List.drop_succ_cons,List.drop_zero]
     go_wp2_with fail
     go_roundw
     case rel =>
      refine⟨j+1,by omega,by go_num,zh ?_,zh (HG2.out.low (by omega) _ _).drew,zh (HF2.out.set _ _).drew,zh (HB2.out.setCell (by exact zq _) _).drew⟩
      rw [HT.out]
      unfold lvstep
      rw [← HLC.out,← HLD.out]
      exact HI2.out.set c _
     case measure=>simp [intOf];omega
    ·have hjj:j=sr.length:=by omega
     subst hjj
     rw [List.take_length]at HI2
     obtain⟨q1,q2⟩:=z3y (B:=ns.length*ns.length) hcl2 sr lv0 (k*(ns.length*ns.length)) hlv0 HRLT.out HLVB.out (by omega)
     obtain⟨lv1,hlv1⟩:∃ x,x=sr.foldl (lvstep c) lv0:=⟨_,rfl⟩
     rw [← hlv1]at HI2 q1 q2
     obtain⟨qa,qb⟩:=q2 c hcl2
     obtain⟨m,hm⟩:∃ m:Nat,gD lv1 c=(m:Int):=⟨(gD lv1 c).toNat,by omega⟩
     have hmb:m≤1100000000:=by omega
     have hcm:=HI2.out.cell c _ (z0z (by omega))
     rw [hm]at hcm
     have HLV1:=zh hlv1
     have HM:=zh hm
     clear hlv1 hm q2 qa qb
     go_wp2_with fail
     obtain⟨wp,rfl⟩:∃ wp:World,wp=wr:=⟨_,rfl⟩
     go_loopw [6] (fun o wr=>∃ (t:Nat) (vs:List Value),(out0.length+t≤max out0.length (m+1))∧Hid (Grid w3.heap.size o vs ((out0++List.replicate t ([]:List Nat)).map (·.map natC)) wr)∧Hid (Ints wr w2.heap.size lv1)∧Hid (FrE w3.heap.size w2.heap.size w3 wr)) (fun o _=>m+1 - vlen o)
     case atStart=>exact⟨0,vs,by omega,zh (by simpa using HG2.out),HI2,HF2⟩
     case round =>
      clear HI2 HG2 HF2 HB2 hcm
      obtain⟨t,vs,ht,HG3,HI3,HF3⟩:=hrel
      obtain⟨oa,oc,hoe⟩:=HG3.out.shape
      rw [List.length_map,List.length_append,List.length_replicate]at hoe
      subst hoe
      have hsr:=HF3.out.size
      have hcm:=HI3.out.cell c _ (z0z (by omega))
      rw [HM.out]at hcm
      obtain⟨n0,hn0⟩:∃ n0,n0=out0.length+t:=⟨_,rfl⟩
      by_cases hle:n0≤m
      ·have hled:decide ((n0:Int)≤(m:Int))=true:=decide_eq_true (by omega)
       have htp:=HG3.out.top
       rw [List.length_map,List.length_append,List.length_replicate,← hn0]at htp
       rw [← hn0]
       have HTP:Hid ((wr.alloc (.cells #[.slice none 0 0] 109)).ownsRow w3.heap.size 109 1 (.slice oa n0 oc) n0 vs):=zh (htp.alloc _)
       clear htp
       go_wp2_with (at_builtin;refine wpList_append_own _ rfl _ _ 73 rfl w3.heap.size 109 i1 (.slice none 0 0) 1 24 underlying73 hi1' hy0 hy1 hy2 rfl (by decide) _ _ _ (by rfl) HTP.out ⟨wr.heap.size,0,none⟩ 1 1 [.slice none 0 0] (by rfl) (by rfl) (World.news_of_block (cs:=#[.slice none 0 0]) (t:=109) (fr:=(0,0)) (heap_alloc_new wr _)) (by simp [Value.oneCell']) (by unfold maxLen;omega) (by omega) (by simp;omega) ?_;intro v' w5 hown' hgrow _)
       go_roundw
       case rel =>
        have hb5:Below w3.heap.size wr w5:=((Below.refl _ _).alloc hsr (.cells #[.slice none 0 0] 109)).grown hgrow (by rw [World.size_alloc];omega) (fun j hj=>(HTP.out.lt j hj).1)
        refine⟨t+1,vs++[.slice none 0 0],by omega,zh ?_,zh ((hb5.block _ (by omega)).trans HI3.out),zh (HF3.out.below hb5)⟩
        have:=(HG3.out.below (z0v wr (.cells #[.slice none 0 0] 109))).push (by rw [← hn0];exact hgrow) (by rw [List.length_map,List.length_append,List.length_replicate,← hn0];exact hown')
        rw [List.replicate_succ',← List.append_assoc,List.map_append]
        exact this
       case measure =>
        have e9:=zad hown'
        simp only [vlen]at e9 ⊢
        omega
      ·have hled:decide ((n0:Int)≤(m:Int))=false:=decide_eq_false (by omega)
       have hpad:out0++List.replicate t ([]:List Nat)=lvpad out0 m:=by
        unfold lvpad
        rw [show t=m+1 - out0.length by omega]
       have hpl:(lvpad out0 m).length=n0:=by rw [← hpad,List.length_append,List.length_replicate,hn0]
       have hG4:Grid w3.heap.size (.slice oa n0 oc) vs ((lvpad out0 m).map (·.map natC)) wr:=by
        rw [← hpad,hn0]
        exact HG3.out
       have hrb:((lvpad out0 m).getD m []).length≤1048576:=by rw [z20];have:=HROW.out m;omega
       have HPUT:Hid (lvput nd out0 m c=(lvpad out0 m).set m ((lvpad out0 m).getD m []++nd.getD c [])):=zh rfl
       rw [← hn0]
       clear hpad HG3
       generalize lvpad out0 m=po at *
       obtain⟨pr,hpr⟩:∃ x,x=po.getD m []:=⟨_,rfl⟩
       rw [← hpr]at hrb HPUT
       obtain⟨u,hu⟩:∃ u,vs[m]? = some u:=⟨vs[m]'(by have:=hG4.len;rw [List.length_map]at this;omega),by simp⟩
       have hl:(po.map (·.map natC))[m]? = some (pr.map natC):=by rw [hpr,List.getElem?_map,zg,ze (by omega)];rfl
       have hown:=hG4.row m u _ hu hl
       rw [List.length_map]at hown
       have htop:=hG4.top
       rw [List.length_map,hpl]at htop
       obtain⟨gt,ctp,hv,hgb1,hgl1,_⟩:=z1a htop (by omega)
       cases hv
       have hcu:wr.cell? ⟨gt,m,none⟩=some u:=z0o htop m u hu
       have hfu:wr.frozen? ⟨gt,m,none⟩=false:=htop.frozenAt m
       have hne:u.ownBlock≠some gt:=fun e=>by
        rcases z3l hown htop (by decide)with h | h
        ·rw [h]at e;cases e
        ·exact h (by rw [e];rfl)
       have hob:∀ b,u.ownBlock=some b→w3.heap.size≤b:=fun b hb=>(hown.lt b hb).1
       have hRN:RowsOf w2.heap.size (.slice va1 nd.length vc1) nd wr:=HR3.out.below (HF3.out.to (zq _) (by omega)) (zq _)
       obtain⟨b1,off1,cap1,hva1,hbw1,hrow1⟩:∃ b off cap,(.slice va1 nd.length vc1:Value)=.slice (some ⟨b,off,none⟩) nd.length cap∧b<w2.heap.size∧∀ i l,nd[i]? = some l→∃ r,wr.cell? ⟨b,off+i,none⟩=some r∧RowOf natC w2.heap.size r l wr:=by
        rcases hRN with ⟨h,_⟩ | h
        ·rw [h]at hlt;simp at hlt
        ·exact h
       cases hva1
       have hgN:nd.getD c []=nd[c]:=by rw [zg,ze hcl2];rfl
       obtain⟨r1,hcn,hrn⟩:=hrow1 c (nd.getD c []) (by rw [hgN];simp)
       have hrp:=HPOS.out c hcl2
       have hrN:=HNL.out c
       obtain⟨rl,hrl⟩:∃ x,x=nd.getD c []:=⟨_,rfl⟩
       rw [← hrl]at hrn hrp hrN HPUT
       obtain⟨rb,ro,rcap,hr1,hrbl,hrc⟩:∃ b off cap,r1=.slice (some ⟨b,off,none⟩) rl.length cap∧b<w2.heap.size∧∀ i x,rl[i]? = some x→wr.cell? ⟨b,off+i,none⟩=some (natC x):=by
        rcases hrn with ⟨h,_⟩ | h
        ·rw [h]at hrp;simp at hrp
        ·exact h
       subst hr1
       have HN:Hid (∀ W1,(wr.drew).grownBy W1 u.ownBlock→HeldR ⟨w2.heap.size,c,none⟩ ⟨gt,m,none⟩ ⟨b1,off1+c,none⟩ (intC (m:Int)) u (.slice (some ⟨rb,ro,none⟩) rl.length rcap) W1∧W1.frozen? ⟨gt,m,none⟩=false):=zh (fun W1 hg=>by
        have a1:some w2.heap.size≠u.ownBlock:=fun e=>by have:=hob _ e.symm;omega
        have a2:some b1≠u.ownBlock:=fun e=>by have:=hob _ e.symm;omega
        have a3:some gt≠u.ownBlock:=fun e=>hne e.symm
        refine⟨⟨?_,?_,?_⟩,?_⟩
        ·rw [hg.cell_far _ (by show w2.heap.size<wr.heap.size;omega) a1]
         exact hcm
        ·rw [hg.cell_far _ (by show gt<wr.heap.size;omega) a3]
         exact hcu
        ·rw [hg.cell_far _ (by show b1<wr.heap.size;omega) a2]
         exact hcn
        ·rw [hg.frozen_far _ (by show gt<wr.heap.size;omega) a3]
         exact hfu)
       have HOWN:Hid (wr.drew.ownsRow w3.heap.size 3 1 u pr.length (pr.map natC)):=zh hown.drew
       have HNEW:Hid (∀ (t9:Nat) (y:Value),(rl.map natC)[t9]? = some y→wr.drew.cell? ((⟨rb,ro,none⟩:Addr).add t9)=some y):=zh (fun t9 y hy=>by
        rw [Addr.add_lit]
        rw [List.getElem?_map]at hy
        cases e:rl[t9]? with
        | none=>rw [e]at hy;cases hy
        | some z=>rw [e]at hy;cases hy;exact hrc t9 z e)
       have hS0:HeldR ⟨w2.heap.size,c,none⟩ ⟨gt,m,none⟩ ⟨b1,off1+c,none⟩ (intC (m:Int)) u (.slice (some ⟨rb,ro,none⟩) rl.length rcap) wr.drew:=⟨hcm,hcu,hcn⟩
       have hm0:(0:Int)≤(m:Int):=by omega
       have hm1:(m:Int)<(n0:Int):=by omega
       have HG4:=zh hG4
       have HU2:=zh hu
       have HL2:=zh hl
       have HOB:=zh hob
       have HPR:=zh hpr
       clear hG4 hu hl hob hpr hown htop hne hcu hfu hcn hRN hrow1 hgN hrn hrc hrl
       go_wp2_with fail
       refine z0j (S:=HeldR ⟨w2.heap.size,c,none⟩ ⟨gt,m,none⟩ ⟨b1,off1+c,none⟩ (intC (m:Int)) u (.slice (some ⟨rb,ro,none⟩) rl.length rcap)) 17 (by kernel_rfl) (by kernel_rfl) ?_
       simp only [List.take_succ_cons,List.take_zero]
       refine zt 0 _ rfl ?_;simp only [zl1];refine zt 1 _ rfl ?_;simp only [zl1];refine zt 2 _ rfl ?_;simp only [zl1];refine zt 3 _ rfl ?_;simp only [zl1];refine zt 4 _ rfl ?_;simp only [zl1];refine zt 5 _ rfl ?_;simp only [zl1];refine zt 6 _ rfl ?_;simp only [zl1];refine zt 7 _ rfl ?_;simp only [zl1];refine zt 8 _ rfl ?_;simp only [zl1];refine zt 9 _ rfl ?_;simp only [zl1]
       refine zt 10 _ rfl ?_;simp only [zl1];refine zt 11 _ rfl ?_;simp only [zl1];refine zt 12 _ rfl ?_;simp only [zl1];refine zt 13 _ rfl ?_;simp only [zl1];refine zt 14 _ rfl ?_;simp only [zl1];refine zt 15 _ rfl ?_;simp only [zl1]
       refine zr 16 rfl fun K hK=>?_
       refine step_append_lies _ (by rfl) _ _ _ (by rfl) w3.heap.size 3 i0 (.int .i64 0) 1 8 underlying109 hi0' hz0 hz1 hz2 rfl (by decide) u _ _ (by rfl) HOWN.out ⟨rb,ro,none⟩ rl.length rcap (rl.map natC) (by rfl) (by rw [List.length_map,Nat.mul_one]) HNEW.out (fun y hy=>by obtain⟨z,_,rfl⟩:=List.mem_map.1 hy;rfl) hrp (by unfold maxLen;omega) (by omega) (by show w3.heap.size≤wr.heap.size;omega) wr.heap.size rfl ?_
       intro gg cap w4 hown4 hg4 hat4 hlt4
       obtain⟨hS4,hfz4⟩:=HN.out _ hg4
       refine hK.out _ _ hS4 (fun _=>?_)
       have hct4:=hS4.2.1
       clear hK K hS4 hS0
       (try simp only [zl1])
       refine wpAnyH_done (by kernel_rfl) ?_ _
       show wpList _ _ _ _ _ _
       simp only [List.drop_succ_cons,List.drop_zero]
       go_wp2_with fail
       go_roundw
       case rel =>
        have g1:wr.grownBy w4 u.ownBlock:=⟨hg4.os,hg4.tape,hg4.output,hg4.size,hg4.block⟩
        have hbx:Below w3.heap.size wr w4:=(Below.refl _ _).grown g1 (by omega) (fun b hb=>HOB.out b hb)
        have hfin:=HG4.out.put m u (.slice (some ⟨gg,0,none⟩) (pr.length+rl.length) cap) _ (pr.map natC++rl.map natC) (by rw [List.length_map,hpl]) HU2.out HL2.out g1 (by rw [List.length_append,List.length_map,List.length_map];exact hown4) (by
         rcases hat4 with h | h
         ·exact .inl (by rw [h];rfl)
         ·refine .inr fun b hb=>?_
          have e:gg=b:=by simpa [Value.ownBlock]using hb
          omega)
        have hadd:lvadd Sc nd (lv0,out0) c=(lv1,po.set m (pr++rl)):=by
         unfold lvadd
         simp only
         rw [← HSR.out,← HLV1.out,HM.out,Int.toNat_natCast,HPUT.out]
        have hmap:(po.map (·.map natC)).set m (pr.map natC++rl.map natC)=(lvrun Sc nd (L.take (k+1))).2.map (·.map natC):=by
         rw [HTK2.out,hadd,List.map_set,List.map_append]
        refine⟨k+1,vs.set m (.slice (some ⟨gg,0,none⟩) (pr.length+rl.length) cap),by omega,by go_num,zh ?_,zh ?_,zh ?_⟩
        ·rw [← hmap]
         exact hfin
        ·rw [HTK2.out,hadd]
         exact(heap_setCell_other _ _ _ _ (fun e=>by have e:w2.heap.size=gt:=e;omega)).trans ((hbx.block _ (by omega)).trans HI3.out)
        ·exact HF3.out.below (hbx.setCell (by exact hgb1) _)
       case measure=>simp [intOf];omega
  ·have hkk:k=nd.length:=by omega
   subst hkk
   rw [show L.take nd.length=L by rw [← hln];exact List.take_length]at HG hin ⊢
   have hout0:=hin.out
   have hrow0:=hin.row
   have hmb:nd.length*(ns.length*ns.length)≤1073741824:=by
    have:=Nat.mul_le_mul hndl hNN
    omega
   have hmb2:nd.length*ns.length≤1048576:=by
    have:=Nat.mul_le_mul hndl hNn
    omega
   have HLV2:=HLV
   generalize (lvrun Sc nd L).2=out0 at *
   clear HI hin
   go_wp2_with fail
   obtain⟨wo,rfl⟩:∃ wo:World,wo=wr:=⟨_,rfl⟩
   go_loopw [84] (fun q wr=>∃ (j:Nat) (vs:List Value),j≤out0.length∧q=.int .i64 j∧Hid (Grid w3.heap.size (.slice oa out0.length oc) vs (((out0.take j).map sortN++out0.drop j).map (·.map natC)) wr)∧Hid (Below w3.heap.size wo wr)) (fun q _=>out0.length - (intOf q).toNat)
   case atStart=>exact⟨0,vs,by omega,rfl,zh (by simpa using HG.out),zh (Below.refl _ _)⟩
   case round =>
    clear HG
    obtain⟨j,vs,hj,rfl,HG,HB⟩:=hrel
    have hml:((out0.take j).map sortN++out0.drop j).length=out0.length:=by simp;omega
    by_cases hjl:j<out0.length
    ·have hj0:(0:Int)≤(j:Int):=by omega
     have hj1:(j:Int)<(out0.length:Int):=by omega
     obtain⟨u,hu⟩:∃ u,vs[j]? = some u:=⟨vs[j]'(by have:=HG.out.len;rw [List.length_map,hml]at this;omega),by simp⟩
     have hgj:((out0.take j).map sortN++out0.drop j)[j]? = some out0[j]:=by
      rw [List.getElem?_append_right (by simp;omega),List.length_map,List.length_take,Nat.min_eq_left (by omega),Nat.sub_self,List.getElem?_drop,Nat.add_zero,ze hjl]
     have hl:(((out0.take j).map sortN++out0.drop j).map (·.map natC))[j]? = some (out0[j].map natC):=by rw [List.getElem?_map,hgj];rfl
     have hown:=HG.out.row j u _ hu hl
     have htop:=HG.out.top
     rw [List.length_map,hml]at htop
     obtain⟨gt,ctp,hv,hgb1,hgl1,_⟩:=z1a htop (by omega)
     cases hv
     have hcu:=z0o htop j u hu
     have hrj:out0[j].length≤1048576:=by
      have:=hrow0 j
      rw [zg,ze hjl]at this
      have h9:out0[j].length≤nd.length*ns.length:=this
      omega
     have HSET:Hid (((out0.take j).map sortN++out0.drop j).set j (sortN out0[j])=(out0.take (j+1)).map sortN++out0.drop (j+1)):=zh (zm5 sortN out0 j hjl)
     generalize out0[j]=row at *
     have hsrt:=zfc w3.heap.size u (row.map fun n:Nat=>(n:Int)) wr (by
      rw [List.length_map]at hown
      rw [List.length_map,List.map_map]
      exact hown) (by rw [List.length_map];omega)
     rw [← zdu]at hsrt
     have HSRT:=zh hsrt
     have HU2:=zh hu
     have HL2:=zh hl
     have hbase:=HG.out.base
     have hob:∀ b,u.ownBlock=some b→w3.heap.size≤b:=fun b hb=>(hown.lt b hb).1
     have HOB:=zh hob
     clear hsrt hu hl hown htop hgj hob
     obtain⟨ua9,ul9,uc9,rfl⟩:∃ a l c,u=.slice a l c:=by
      obtain⟨a,c,h⟩:=z05 (HG.out.row j u _ HU2.out HL2.out)
      exact⟨_,_,_,h⟩
     go_wp2_with fail
     refine HSRT.out.mono ?_
     rintro e w5 ⟨rfl,hg5,ho5⟩
     go_wp2_with fail
     go_roundw
     case rel =>
      refine⟨j+1,vs,by omega,by go_num,zh ?_,zh (HB.out.grown hg5 hbase (fun b hb=>HOB.out b hb))⟩
      rw [← HSET.out,List.map_set]
      refine HG.out.turn j _ _ ((sortN row).map natC) HU2.out HL2.out hg5 ?_
      have hlen:((row.map fun n:Nat=>(n:Int)).mergeSort fun x y=>decide (x≤y)).length=(sortN row).length:=by unfold sortN;rw [List.length_map]
      rw [hlen]at ho5
      rw [List.length_map]
      exact ho5
     case measure=>simp [intOf];omega
    ·have hjj:j=out0.length:=by omega
     subst hjj
     rw [List.take_length,List.drop_length,List.append_nil]at HG
     go_wp2_with fail
     go_ret
     refine⟨_,rfl,?_,?_,HW3.out.trans ((HF.out.to (B0:=w2.heap.size) (zq _) (by omega)).mono (by omega) |>.trans (HB.out.mono (by omega)))⟩
     ·rw [HLV2.out]
      exact HG.out.rows
     ·rw [HLV2.out]
      exact HG.out.from.mono (by omega)
theorem zfm (nv ev:Value)(ns:List ByteArray)(es:List (Int×Int))(w:World)(hE:EdgesOf w.heap.size ev es w)(hN:RowOf Value.string w.heap.size nv ns w)(hval:validG ns.length es=true)(hco:Numbered ns.length es) :
  Calls prog 35 #[.agg #[nv,ev]] w fun e w'=>∃ v,e=.returned v∧RowsOf w'.heap.size v (levelsG ns.length es) w'∧Below w.heap.size w w':=by
 refine(zfl nv ev ns es w hE hN hval hco).mono ?_
 rintro e w' ⟨v,h1,h2,_,h3⟩
 exact⟨v,h1,h2,h3⟩
section
open Go.Proofs.Tryz Go Go.RowKit Go.Maps
theorem pigeon {α β:Type} [DecidableEq β] (R:α→β→Prop):∀ (l:List α)(m:List β),l.Nodup→(∀ a∈l,∃ b∈m,R a b)→(∀ a∈l,∀ c∈l,∀ b,R a b→R c b→a=c)→l.length≤m.length
 | [],m,_,_,_=>Nat.zero_le _
 | a::l,m,hn,h1,h2=>by
  obtain⟨b,hb,hab⟩:=h1 a (by simp)
  have hn2:=List.nodup_cons.1 hn
  have ih:=pigeon R l (m.erase b) hn2.2 (fun c hc=>by
   obtain⟨d,hd,hcd⟩:=h1 c (by simp [hc])
   have hne:d≠b:=fun e=>by
    subst e
    have:=h2 a (by simp) c (by simp [hc]) d hab hcd
    subst this
    exact hn2.1 hc
   exact⟨d,(List.mem_erase_of_ne hne).2 hd,hcd⟩) (fun c hc d hd x=>h2 c (by simp [hc]) d (by simp [hd]) x)
  have:=List.length_erase_of_mem hb
  have:=List.length_pos_of_mem hb
  simp only [List.length_cons]
  omega
theorem zbz {α:Type}(n:Nat):∀ K:List α,(K.flatMap fun y=>(List.range n).map fun j=>(y,j)).length=K.length*n
 | []=>by simp
 | y::K=>by rw [List.flatMap_cons,List.length_append,zbz n K,List.length_map,List.length_range,List.length_cons,Nat.succ_mul];omega
theorem plc_at {f t:List SelL}{p:ByteArray}(h:atS f p=atS t p):plcS f p=plcS t p:=by unfold plcS;rw [h]
theorem zgv {X:List RelL}{f t:List SelL}(h:errW X f t=0):(wavE X f t).length≤4096:=by
 obtain⟨hf,ht⟩:=z04 h
 obtain⟨hcx,hif,hff⟩:=z0f hf
 obtain⟨_,hit,hft⟩:=z0f ht
 have hinc:=z1r hif hit
 have hk:∀ (s:List SelL),(∀ y∈s,(findR X y).isSome=true)→∀ y∈s,y∈X.map keyL:=fun s hs y hy=>by
  obtain⟨x,hx⟩:=Option.isSome_iff_exists.1 (hs y hy)
  have hm:x∈X:=List.mem_of_find?_eq_some hx
  have hk:keyL x=y:=by have:=List.find?_some hx;simpa using this
  exact List.mem_map.2 ⟨x,hm,hk⟩
 have hlen:=zat hcx
 classical
 have key:=pigeon (fun(e:Int×Int) (z:SelL×Nat)=>∃ i k:Nat,e=((i:Int),(k:Int))∧i<(movesP f t).length∧k<(movesP f t).length ∧
   ((atS t ((movesP f t).getD i default)=some z.1∧∃ q,(reqsOf X z.1)[z.2]? = some q∧q.1=(movesP f t).getD k default)∨(atS f ((movesP f t).getD k default)=some z.1∧∃ q,(reqsOf X z.1)[z.2]? = some q∧q.1=(movesP f t).getD i default)))
  (wavE X f t) ((X.map keyL).flatMap fun y=>(List.range 16).map fun j=>(y,j)) (zgu X f t) (fun e he=>by
   obtain⟨i,k,hi,hk2,hn,rfl⟩:=za0.1 he
   unfold needB at hn
   rw [Bool.and_eq_true,Bool.or_eq_true]at hn
   rcases hn.2 with hc | hc
   ·obtain⟨y,hy,q,hq,hqb,_⟩:=z2n.1 hc
    obtain⟨j,hj,e⟩:=List.mem_iff_getElem.1 hq
    have hr:=z8x hcx y
    exact⟨(y,j),List.mem_flatMap.2 ⟨y,hk t hft y (z02 hy).1,List.mem_map.2 ⟨j,List.mem_range.2 (by omega),rfl⟩⟩,i,k,rfl,hi,hk2,.inl ⟨hy,q,by rw [ze hj,e],hqb⟩⟩
   ·obtain⟨y,hy,q,hq,hqb,_⟩:=z2n.1 hc
    obtain⟨j,hj,e⟩:=List.mem_iff_getElem.1 hq
    have hr:=z8x hcx y
    exact⟨(y,j),List.mem_flatMap.2 ⟨y,hk f hff y (z02 hy).1,List.mem_map.2 ⟨j,List.mem_range.2 (by omega),rfl⟩⟩,i,k,rfl,hi,hk2,.inr ⟨hy,q,by rw [ze hj,e],hqb⟩⟩) (fun e _ e' _ z h1 h2=>by
   obtain⟨i,k,rfl,hi,hk1,h1⟩:=h1
   obtain⟨i',k',rfl,hi',hk',h2⟩:=h2
   have mix:∀ {i k:Nat},k<(movesP f t).length→atS t ((movesP f t).getD i default)=some z.1→atS f ((movesP f t).getD k default)=some z.1→False:=fun {i k} hk1 a1 a2=>by
    have e1:=(z02 a1).2
    have e2:=(z02 a2).2
    rw [← e1,e2]at a1
    have hm:(movesP f t).getD k default∈movesP f t:=by rw [zg,ze hk1];exact List.getElem_mem hk1
    exact(z5g.1 hm) (plc_at (by rw [a2];exact a1.symm))
   rcases h1 with ⟨a1,q,hq,b1⟩ | ⟨a1,q,hq,b1⟩<;>rcases h2 with ⟨a2,q',hq',b2⟩ | ⟨a2,q',hq',b2⟩
   ·rw [hq]at hq';cases hq'
    have e1:=hinc.inj hi hi' ((z02 a1).2.symm.trans (z02 a2).2)
    have e2:=hinc.inj hk1 hk' (b1.symm.trans b2)
    rw [e1,e2]
   ·exact(mix hk' a1 a2).elim
   ·exact(mix hk1 a2 a1).elim
   ·rw [hq]at hq';cases hq'
    have e1:=hinc.inj hk1 hk' ((z02 a1).2.symm.trans (z02 a2).2)
    have e2:=hinc.inj hi hi' (b1.symm.trans b2)
    rw [e1,e2])
 rw [zbz,List.length_map]at key
 omega
theorem z24 {X:List RelL}{f t:List SelL}(h:errW X f t=0):(movesP f t).length≤512:=by
 have h1:=z66 (z04 h).1
 have h2:=z66 (z04 h).2
 have h3:=z1s f t
 omega
theorem z9a {X:List RelL}{f t:List SelL}(h:errW X f t=0):validG (movesP f t).length (wavE X f t)=true:=by
 have h1:=z24 h
 have h2:=zgv h
 unfold validG
 rw [Bool.and_eq_true,Bool.and_eq_true,decide_eq_true_iff,decide_eq_true_iff,List.all_eq_true]
 refine⟨⟨by omega,h2⟩,fun e he=>?_⟩
 obtain⟨i,k,hi,hk,_,rfl⟩:=za0.1 he
 rw [decide_eq_true_iff]
 omega
theorem z4s {N:Nat}{es:List (Int×Int)}{L:List (List Nat)}{pos:Nat→Nat}(h:PartP N es L pos):(∀ l∈L,∀ n∈l,n<N)∧∀ l∈L,l.length≤N:=by
 have h1:∀ l∈L,∀ n∈l,n<N:=fun l hl n hn=>by
  obtain⟨i,hi,e⟩:=List.mem_iff_getElem.1 hl
  exact((h.mem i l (by rw [ze hi,e]) n).1 hn).1
 refine⟨h1,fun l hl=>?_⟩
 obtain⟨i,hi,e⟩:=List.mem_iff_getElem.1 hl
 have hs:=(h.srt i l (by rw [ze hi,e])).1
 have hn:l.Nodup:=hs.imp fun {a b} hab=>Nat.ne_of_lt hab
 have:=z1i hn (m:=List.range N) (fun a ha=>List.mem_range.2 (h1 l hl a ha))
 rwa [List.length_range]at this
theorem z5a (N:Nat)(es:List (Int×Int)):(∀ l∈compsG N es,∀ n∈l,n<N)∧(∀ l∈compsG N es,l.length≤N)∧(compsG N es).length≤N:=by
 obtain⟨pos,h⟩:=z89 N es
 exact⟨(z4s h.part).1,(z4s h.part).2,by rw [z6t];exact(z5h (numbered N es)).1⟩
theorem z75 (N:Nat)(es:List (Int×Int)):(∀ l∈levelsG N es,∀ n∈l,n<N)∧(∀ l∈levelsG N es,l.length≤N)∧(levelsG N es).length≤N:=by
 obtain⟨pos,h⟩:=z74 N es
 exact⟨(z4s h).1,(z4s h).2,Nat.le_trans (z8j N es) (z5a N es).2.2⟩
noncomputable def grpV (X:List RelL)(f t:List SelL):List (List ByteArray):=if errW X f t=0 then grpW X f t else []
theorem zfk (v iv fv tv:Value)(X:List RelL)(f t:List SelL)(w:World)(hm:MaxOk w)(hX:X.length≤1000000)(hq:∀ x∈X,RelBd x)(hR:RelsOf w.heap.size v X w)
  (hf:f.length≤1000000) (hfy:∀ y∈f,SelBd y) (hF:SelsOf w.heap.size fv f w) (ht:t.length≤1000000) (hty:∀ y∈t,SelBd y) (hT:SelsOf w.heap.size tv t w) :
  Calls prog 9 #[.agg #[v,iv],fv,tv] w (NamedR w (grpV X f t) (errW X f t)):=by
 have HNA:=zh (fun W (hb:RowKit.Below w.heap.size w W)=>zbp 32 (enters_of func32 (by kernel_rfl) rfl) v iv fv tv X f t W
  (fun W2 h2=>have hb2:=hb.trans (h2.mono hb.size);z6g v iv fv tv X f t W2 (hm.below hb2 hm.pos) hX hq (hR.on hb2) hf hfy (hF.on hb2) ht hty (hT.on hb2))
  (by obtain⟨a,c,_,e,_⟩:=hR.rv;exact⟨_,_,_,e⟩) (by obtain⟨a,c,e,_⟩:=hF;exact⟨a,_,c,e⟩) (by obtain⟨a,c,e,_⟩:=hT;exact⟨a,_,c,e⟩)
  (movesP f t) rfl (compsG (movesP f t).length (wavE X f t)) (fun _=>(z5a _ _).1) (fun h=>by
   have h1:=z24 h
   obtain⟨_,h2,h3⟩:=z5a (movesP f t).length (wavE X f t)
   exact⟨by omega,fun l hl=>by have:=h2 l hl;omega⟩)
  (fun h W2 nv ev hn he=>z7s nv ev (movesP f t) (wavE X f t) W2 he hn (z9a h) (numbered _ _)))
 have HVV:Hid ((if errW X f t=0 then nameL (movesP f t) (compsG (movesP f t).length (wavE X f t)) else [])=grpV X f t):=zh rfl
 rw [HVV.out]at HNA
 clear HVV
 obtain⟨va,vn,vc,rfl⟩:∃ a n c,v=.slice a n c:=by obtain⟨a,c,_,e,_⟩:=hR.rv;exact⟨_,_,_,e⟩
 obtain⟨fa,fc,rfl⟩:=zo hF
 obtain⟨ta,tc,rfl⟩:=zo hT
 clear hm hq hR hF hT hfy hty
 have HB0:=zh (IdxBx.start w (.slice va vn vc) iv)
 unfold NamedR at HNA ⊢
 generalize grpV X f t=LL at *
 generalize errW X f t=E at *
 go_enter func9,ntmps9
 go_upto_region 1 with fail
 generalize w.alloc (.cells #[.slice va vn vc,iv] 25)=W at *
 have c0:=HB0.out.c0
 have c1:=HB0.out.c1
 go_wp2_with fail
 refine(HNA.out _ HB0.out.bel).mono ?_
 rintro e w1 ⟨nv,rfl,hnm,hb1⟩
 have HB1:=zh (HB0.out.below hb1)
 have HNM:=zh hnm
 clear hnm hb1 c0 c1 HNA
 go_wp2_with fail
 go_ret2
 exact⟨_,rfl,HNM.out,HB1.out.bel⟩
noncomputable def wavV (X:List RelL)(f t:List SelL):List (List ByteArray):=if errW X f t=0 then wavW X f t else []
theorem zh3 (v iv fv tv:Value)(X:List RelL)(f t:List SelL)(w:World)(hm:MaxOk w)(hX:X.length≤1000000)(hq:∀ x∈X,RelBd x)(hR:RelsOf w.heap.size v X w)
  (hf:f.length≤1000000) (hfy:∀ y∈f,SelBd y) (hF:SelsOf w.heap.size fv f w) (ht:t.length≤1000000) (hty:∀ y∈t,SelBd y) (hT:SelsOf w.heap.size tv t w) :
  Calls prog 11 #[.agg #[v,iv],fv,tv] w (NamedR w (wavV X f t) (errW X f t)):=by
 have HNA:=zh (fun W (hb:RowKit.Below w.heap.size w W)=>zbp 35 (enters_of func35 (by kernel_rfl) rfl) v iv fv tv X f t W
  (fun W2 h2=>have hb2:=hb.trans (h2.mono hb.size);z6g v iv fv tv X f t W2 (hm.below hb2 hm.pos) hX hq (hR.on hb2) hf hfy (hF.on hb2) ht hty (hT.on hb2))
  (by obtain⟨a,c,_,e,_⟩:=hR.rv;exact⟨_,_,_,e⟩) (by obtain⟨a,c,e,_⟩:=hF;exact⟨a,_,c,e⟩) (by obtain⟨a,c,e,_⟩:=hT;exact⟨a,_,c,e⟩)
  (movesP f t) rfl (levelsG (movesP f t).length (wavE X f t)) (fun _=>(z75 _ _).1) (fun h=>by
   have h1:=z24 h
   obtain⟨_,h2,h3⟩:=z75 (movesP f t).length (wavE X f t)
   exact⟨by omega,fun l hl=>by have:=h2 l hl;omega⟩)
  (fun h W2 nv ev hn he=>zfm nv ev (movesP f t) (wavE X f t) W2 he hn (z9a h) (numbered _ _)))
 have HVV:Hid ((if errW X f t=0 then nameL (movesP f t) (levelsG (movesP f t).length (wavE X f t)) else [])=wavV X f t):=zh rfl
 rw [HVV.out]at HNA
 clear HVV
 obtain⟨va,vn,vc,rfl⟩:∃ a n c,v=.slice a n c:=by obtain⟨a,c,_,e,_⟩:=hR.rv;exact⟨_,_,_,e⟩
 obtain⟨fa,fc,rfl⟩:=zo hF
 obtain⟨ta,tc,rfl⟩:=zo hT
 clear hm hq hR hF hT hfy hty
 have HB0:=zh (IdxBx.start w (.slice va vn vc) iv)
 unfold NamedR at HNA ⊢
 generalize wavV X f t=LL at *
 generalize errW X f t=E at *
 go_enter func11,ntmps11
 go_upto_region 1 with fail
 generalize w.alloc (.cells #[.slice va vn vc,iv] 25)=W at *
 have c0:=HB0.out.c0
 have c1:=HB0.out.c1
 go_wp2_with fail
 refine(HNA.out _ HB0.out.bel).mono ?_
 rintro e w1 ⟨nv,rfl,hnm,hb1⟩
 have HB1:=zh (HB0.out.below hb1)
 have HNM:=zh hnm
 clear hnm hb1 c0 c1 HNA
 go_wp2_with fail
 go_ret2
 exact⟨_,rfl,HNM.out,HB1.out.bel⟩
end
section
open Go.Proofs.Tryz Go Go.RowKit Go.Sort Go.Lib
def cfQ (x y:SelL):Int:=if ltB x.1 y.1=true then -1 else 1
theorem ltQ (x y:SelL):ltOf cfQ x y=ltB x.1 y.1:=by
 unfold ltOf cfQ
 cases ltB x.1 y.1<;>simp
theorem zm2 (a:ByteArray):ltB a a=false:=by
 cases h:ltB a a with
 | false=>rfl
 | true=>have:=z1n h;rw [h]at this;cases this
theorem swoQ:SWO (ltOf cfQ) where
 irrefl x:=by rw [ltQ];exact zm2 _
 trans x y z h1 h2:=by rw [ltQ]at *;exact z1o h1 h2
 ntrans x y z h1 h2:=by
  rw [ltQ]at *
  cases h:ltB x.1 z.1 with
  | false=>rfl
  | true =>
   cases h3:ltB y.1 x.1 with
   | true=>have:=z1o h3 h;rw [h2]at this;cases this
   | false=>rw [z2i h1 h3]at h;rw [h2]at h;cases h
theorem zgl (x y:SelL)(W:World):Calls prog 77 #[.agg #[.string x.1,intC x.2.1,intC x.2.2.1,intC x.2.2.2],.agg #[.string y.1,intC y.2.1,intC y.2.2.1,intC y.2.2.2]] W fun e w'=>e=.returned (.int .i64 (cfQ x y))∧∃ q os',w'=grow (W.drewN q) os':=by
 obtain⟨x1,xa,xn,xc⟩:=x
 obtain⟨y1,ya,yn,yc⟩:=y
 unfold cfQ
 simp only
 cases h:ltB x1 y1 with
 | true =>
  have h2:Op.bytesLess x1.toList y1.toList=true:=h
  clear h
  go_enter func77,ntmps77
  go_wp2_with fail
  go_ret
  exact⟨rfl,0,_,by rw [alloc_eq_grow,alloc_eq_grow,grow_grow];rfl⟩
 | false =>
  have h2:Op.bytesLess x1.toList y1.toList=false:=h
  clear h
  go_enter func77,ntmps77
  go_wp2_with fail
  go_ret
  exact⟨rfl,0,_,by rw [alloc_eq_grow,alloc_eq_grow,grow_grow];rfl⟩
theorem zb5 (d:Array SelL):flatK selC 4 d=(selCells d.toList).toArray:=by
 apply Array.ext
 ·rw [size_flatK];simp [z0p]
 ·intro t h1 h2
  rw [size_flatK]at h1
  have e:(flatK selC 4 d)[t]=(flatK selC 4 d)[t]!:=(getElem!_pos _ t (by rw [size_flatK];exact h1)).symm
  rw [e,get_flatK _ _ _ _ h1,List.getElem_toArray]
  have ht:t / 4<d.size:=by omega
  have hm:t % 4<4:=Nat.mod_lt _ (by omega)
  have ha:=z33 (l:=d.toList) (i:=t / 4) (j:=t % 4) (by simpa using ht) hm
  rw [show t / 4*4+t % 4=t by omega]at ha
  rw [getElem!_pos d (t / 4) ht]
  have hd:d.toList.getD (t / 4) default=d[t / 4]:=by rw [zg,ze (by simpa using ht)];simp
  rw [hd]at ha
  have hl:(selC d[t / 4]).length=4:=rfl
  rw [getElem!_pos (selC d[t / 4]) (t % 4) (by omega)]
  have h2':t<(selCells d.toList).length:=by simpa using h2
  rw [ze h2',ze (by omega)]at ha
  exact(Option.some.inj ha).symm
theorem zaa (blk cap:Nat)(d:Array SelL)(w:World)(hH:HoldsK selC 4 w blk 0 d)(hblk:blk<w.heap.size)(hsz:d.size<4611686018427387904) :
  Calls prog 76 #[.slice (some ⟨blk,0,none⟩) d.size cap,.func (.func 77) #[] #[]] w fun e w' =>
   e=.returned (.tuple #[])∧∃ d' n os,PermIn 0 d.size d d'∧SortedIn (ltOf cfQ) 0 d.size d'∧w'=sortWorldK selC 4 w blk 0 n d' os:=by
 have eg:∀ args w,(callFunc 77 args).run prog w=.ok (.enter 77 args) w:=enters_of func77 (by kernel_rfl) rfl
 have hcmp:CmpLays prog 77 #[] selC 4 cfQ blk 0 d.size w:=fun _ _ _ _ x y=>zgl x y _
 have hk:∀ x:SelL,(selC x).length=4:=fun _=>rfl
 have h1:∀ x:SelL,∀ v∈selC x,v.oneCell'=true:=fun x v hv=>by
  unfold selC at hv
  simp only [List.mem_cons,List.not_mem_nil,or_false]at hv
  rcases hv with rfl | rfl | rfl | rfl<;>rfl
 have hlim:Lib.bitLen d.size<4611686018427387904:=Nat.lt_of_le_of_lt (Lib.bitLen_le d.size 62 (by omega) (by omega)) (by omega)
 have hp:=AnyQ.pdqsortCmpFunc_all (P:=prog) (ρ:=Tryz.pdqSel_ren) Tryz.pdqSel 4 isAgg53 sizeOf53 selC cfQ 77 #[] swoQ blk 0 cap d w eg hcmp ⟨hk,h1,hH,hblk⟩ (d.size+1) 0 d.size (Lib.bitLen d.size) d w (by omega) rfl (SWK.start hH) (Nat.zero_le _) (zq _) hsz hlim (Or.inl rfl)
 change Calls prog 109 _ _ _ at hp
 have hl:Calls prog 80 #[.int .u64 (d.size:Int)] w fun e w'=>e=.returned (.int .i64 (Lib.bitLen d.size:Nat))∧w'=w:=by
  have h:=Tryz.bits_Len (d.size:Int) w (by omega) (by omega)
  rwa [Int.toNat_natCast]at h
 have wr:IntKind.u64.wrap (d.size:Int)=d.size:=by simp [IntKind.wrap,IntKind.bits,IntKind.signed];omega
 have HP:=zh hp
 have HL:=zh hl
 clear hH hcmp hk h1 hp hl eg
 go_enter func76,ntmps76
 go_wp2_with fail
 refine HL.out.mono ?_
 rintro e w' ⟨rfl,rfl⟩
 go_wp2_with fail
 refine HP.out.mono ?_
 rintro e w' ⟨rfl,n,os,rfl⟩
 go_wp2_with fail
 go_end0
 have h:=pdq_sorts (ltOf cfQ) swoQ d 0 d.size (Lib.bitLen d.size) true true (Nat.zero_le _) (zq _) (Or.inl rfl)
 exact⟨rfl,_,n,os,h.1,h.2,rfl⟩
theorem zd8 (p:Option Addr)(cap:Nat)(fv:Value)(w:World) :
  Calls prog 148 #[.slice p 0 cap,.int .i64 0,.int .i64 0,fv] w fun e w'=>e=.returned (.tuple #[])∧w'=w:=by
 go_enter func148,ntmps148
 go_wp2_with fail
 go_loopw [8] (fun i wr=>i=.int .i64 1∧wr=w) (fun _ _=>0)
 case atStart=>exact⟨rfl,rfl⟩
 case round =>
  obtain⟨rfl,rfl⟩:=hrel
  go_wp2_with fail
  go_end0
  exact⟨rfl,rfl⟩
theorem zdn (p:Option Addr)(cap:Nat)(lim:Int)(fv:Value)(w:World) :
  Calls prog 109 #[.slice p 0 cap,.int .i64 0,.int .i64 0,.int .i64 lim,fv] w fun e w'=>e=.returned (.tuple #[])∧w'=w:=by
 have HI:=zh (zd8 p cap fv w)
 go_enter func109,ntmps109
 go_wp2_with fail
 go_loopw [1,2,3,10,11] (fun x y l b1 b2 wr=>x=.int .i64 0∧y=.int .i64 0∧l=.int .i64 lim∧b1=.bool true∧b2=.bool true∧wr=w) (fun _ _ _ _ _ _=>0)
 case atStart=>exact⟨rfl,rfl,rfl,rfl,rfl,rfl⟩
 case round =>
  obtain⟨rfl,rfl,rfl,rfl,rfl,rfl⟩:=hrel
  go_wp2_with fail
  refine HI.out.mono ?_
  rintro e w' ⟨rfl,rfl⟩
  go_wp2_with fail
  refine bodyPost_ret (results_none rfl _ _ _) rfl ?_
  exact⟨rfl,rfl⟩
theorem zj1 (B:Nat)(v:Value)(l:List SelL)(w:World)(h:w.ownsRow B 53 4 v l.length (selCells l))(hl:l.length≤1000000000) :
  Calls prog 76 #[v,.func (.func 77) #[] #[]] w fun e w'=>e=.returned (.tuple #[]) ∧
   ∃ l':List SelL,l'.Perm l∧l'.Pairwise (fun a b=>ltB b.1 a.1=false)∧w.grownBy w' v.ownBlock∧w'.ownsRow B 53 4 v l.length (selCells l'):=by
 rcases h.2 with ⟨rfl,h0⟩ | ⟨g,cap,cur,rfl,hbg,hg,hc,hcm,hcs,ht⟩
 ·obtain rfl:l=[]:=List.length_eq_zero_iff.1 h0
  have hl:Calls prog 80 #[.int .u64 0] w fun e w'=>e=.returned (.int .i64 ((Lib.bitLen 0:Nat):Int))∧w'=w:=Tryz.bits_Len 0 w (by omega) (by omega)
  have hp:=zdn none 0 ((Lib.bitLen 0:Nat):Int) (.func (.func 77) #[] #[]) w
  have HL:=zh hl
  have HP:=zh hp
  clear hl hp h0
  go_enter func76,ntmps76
  go_wp2_with fail
  refine HL.out.mono ?_
  rintro e w' ⟨rfl,rfl⟩
  go_wp2_with fail
  refine HP.out.mono ?_
  rintro e w' ⟨rfl,rfl⟩
  go_wp2_with fail
  go_end0
  exact⟨rfl,[],List.Perm.refl _,List.Pairwise.nil,World.grownBy.refl _ _,World.ownsRow_nil _ _ _ _⟩
 ·have hfl:flatK selC 4 l.toArray=(selCells l).toArray:=by rw [zb5]
  have hsz:l.toArray.size=l.length:=by simp
  have hH:HoldsK selC 4 w g 0 l.toArray:=by
   unfold HoldsK
   rw [hfl]
   exact z3j hg (by rw [z0p];exact ht)
  have hcon:=zaa g cap l.toArray w hH (zb hg) (by rw [hsz];omega)
  rw [hsz]at hcon
  refine hcon.mono ?_
  rintro e w' ⟨rfl,d',n,os,hp,hs,rfl⟩
  obtain⟨hps,_,hperm⟩:=hp
  rw [hsz]at hps
  have hpl:d'.toList.Perm l:=by
   have e1:(d'.extract 0 l.length)=d':=by rw [← hps];exact Array.extract_size
   have e2:(l.toArray.extract 0 l.length)=l.toArray:=by rw [← hsz];exact Array.extract_size
   rw [e1,e2,List.toList_toArray]at hperm
   exact hperm
  refine⟨rfl,d'.toList,hpl,?_,z5p _,?_⟩
  ·rw [List.pairwise_iff_getElem]
   intro i j hi hj hij
   rw [Array.length_toList]at hi hj
   have:=hs i j (Nat.zero_le _) hij (by omega)
   rw [ltQ,getElem!_pos d' i hi,getElem!_pos d' j hj]at this
   simpa using this
  ·unfold sortWorldK putRowK
   rw [zb5]
   have hel:(selCells d'.toList).length=l.length*4:=by rw [z0p,Array.length_toList,hps]
   exact⟨hel,.inr ⟨g,cap,_,rfl,hbg,zb9 _ hg,hc,hcm,by simp [putCells,hcs],by rw [← hel];exact zcl _ _ (by rw [hel];omega)⟩⟩
end
end Go.Proofs.YtapbhoodgnmnkaaGreatDoor
