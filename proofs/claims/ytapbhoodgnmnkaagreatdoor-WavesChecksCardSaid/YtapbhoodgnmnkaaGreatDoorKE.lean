/- Laws and contracts. -/
import Derived.Test.YtapbhoodgnmnkaaGreatDoorKD
set_option linter.unusedVariables false
set_option linter.unusedSimpArgs false
set_option maxRecDepth 100000
set_option maxHeartbeats 32000000
namespace Go.Proofs.YtapbhoodgnmnkaaGreatDoor
open Go.Proofs.Tryz Go Go.RowKit
def HeldC48 (gg:Nat)(nv:Value)(b o:Nat)(rv:Value)(b2 o2 o3:Nat)(p q:ByteArray)(W:World):Prop:=W.cell? ⟨gg,0,none⟩=some nv∧W.cell? ⟨b,o,none⟩=some rv∧W.cell? ⟨b2,o2,none⟩=some (.string p)∧W.cell? ⟨b2,o3,none⟩=some (.string q)
theorem zan (f t:List SelL)(M:List ByteArray):(betV f t M).length≤f.length+t.length:=by
 have h1:(betV f t M).length≤(allP f t).length:=List.length_filterMap_le _ _
 have h2:=z2p (f.map (·.1)) (t.map (·.1))
 rw [List.length_map,List.length_map]at h2
 exact Nat.le_trans h1 h2
theorem z8d:∀ l:List (List ByteArray),(∀ x∈l,x.length≤20)→l.flatten.length≤l.length*20
 | [],_=>by simp
 | a::l,hx=>by
  have h1:=z8d l (fun x hx2=>hx x (by simp [hx2]))
  have h2:=hx a (by simp)
  simp only [List.flatten_cons,List.length_append,List.length_cons]
  omega
theorem zc3 (v iv fv tv mv:Value)(X:List RelL)(f t:List SelL)(L:List (List ByteArray))(w:World)(hX:X.length≤1000000)(hq:∀ x∈X,RelBd x)(hR:RelsOf w.heap.size v X w)(hf:f.length≤32)(hF:SelsOf w.heap.size fv f w)(ht:t.length≤32)(hT:SelsOf w.heap.size tv t w)
  (hLl:L.length≤20) (hLr:∀ l∈L,l.length≤20) (hM:NamesOf w.heap.size mv L w) :
  Calls prog 23 #[.agg #[v,iv],fv,tv,mv] w fun e w'=>e=.returned (.int .i64 (planV X f t L))∧Below w.heap.size w w':=by
 have HGR:=zh (fun W (hb:Below w.heap.size w W)=>z5t v iv fv tv X f t W hX hq (hR.on hb) (by omega) (hF.on hb) (by omega) (hT.on hb))
 have HFX:Hid (∀ k,(L.take k).flatten.length≤400):=zh (fun k=>by
  have h:=z8d (L.take k) (fun x hx=>hLr x (List.mem_of_mem_take hx))
  have h2:(L.take k).length≤L.length:=by rw [List.length_take];exact Nat.min_le_right _ _
  omega)
 have HBT:=zh (fun k W mv (hb:Below w.heap.size w W) (hm:RowOf Value.string W.heap.size mv (L.take k).flatten W)=>z8w fv tv mv f t (L.take k).flatten W (by omega) (by omega) (by have:=HFX.out k;omega) (hF.on hb) (hT.on hb) hm)
 have HCS:=zh (fun k W sv (hb:Below w.heap.size w W) (hs:SelsOf W.heap.size sv (betV f t (L.take k).flatten) W)=>z7i v iv sv X (betV f t (L.take k).flatten) W hX hq (hR.on hb) (by have:=zan f t (L.take k).flatten;omega) hs)
 have HV0:Hid (errW X f t=0→¬ PlanOk (movesP f t) L→planV X f t L=1):=zh zkv
 have HV1:Hid (errW X f t≠0→planV X f t L=errW X f t):=zh (fun h=>by unfold planV;rw [if_pos h])
 have HV2:Hid (errW X f t=0→PlanOk (movesP f t) L→(∀ k,k<L.length→consV X (betV f t (L.take (k+1)).flatten)≠0→planV X f t L=17)∧((∀ k,k<L.length→consV X (betV f t (L.take (k+1)).flatten)=0)→planV X f t L=0)):=zh zii
 have HPN:Hid (errW X f t=0→(movesP f t).Nodup):=zh (fun h0=>(z1r (z0f (z04 h0).1).2.1 (z0f (z04 h0).2).2.1).nodupW)
 have hml:=z1s f t
 have hpl:(movesP f t).length≤64:=by omega
 have HG0:Hid (errW X f t=0→graphV X f t=((movesP f t,wavE X f t),0)):=zh (fun h=>by unfold graphV;rw [h,if_pos rfl])
 have HG1:Hid (errW X f t≠0→graphV X f t=(([],[]),errW X f t)):=zh (fun h=>by unfold graphV;rw [if_neg h])
 obtain⟨va,vn,vc,rfl⟩:∃ a n c,v=.slice a n c:=by obtain⟨a,c,_,e,_⟩:=hR.rv;exact⟨_,_,_,e⟩
 obtain⟨fa,fc,rfl⟩:=zo hF
 obtain⟨ta,tc,rfl⟩:=zo hT
 obtain⟨ma,mc,rfl,hma⟩:=hM
 have HNA:Hid (∀ i l,L[i]? = some l→∃ b off ra rc,ma=some ⟨b,off,none⟩∧(∀ W,Below w.heap.size w W→W.cell? ⟨b,off+i,none⟩=some (.slice ra l.length rc)∧RowOf Value.string W.heap.size (.slice ra l.length rc) l W)∧∀ k p,l[k]? = some p→∃ b2 off2,ra=some ⟨b2,off2,none⟩∧∀ W,Below w.heap.size w W→W.cell? ⟨b2,off2+k,none⟩=some (.string p)):=zh (fun i l hl=>by
  obtain⟨b,off,r,h1,h2,h3,h4⟩:=hma i l hl
  obtain⟨ra,rc,rfl,h5⟩:=z01 h4
  exact⟨b,off,ra,rc,h1,fun W hb=>⟨(hb.cell (p:=⟨b,off+i,none⟩) h2).trans h3,(h4.below hb (zq _)).mono hb.size⟩,fun k p hk=>by
   obtain⟨b2,off2,e,h6,h7⟩:=h5 k p hk
   exact⟨b2,off2,e,fun W hb=>(hb.cell (p:=⟨b2,off2+k,none⟩) h6).trans h7⟩⟩)
 have HLR:=zh hLr
 have HLN:=zh (fun W=>z4p ma L.length mc W)
 clear hq hR hF hT hma hLr hml
 have HB0:=zh (IdxBx.start w (.slice va vn vc) iv)
 obtain⟨E,hE⟩:∃ E,errW X f t=E:=⟨_,rfl⟩
 rw [hE]at HG0 HG1 HV0 HV1 HV2 HPN
 clear hE
 generalize graphV X f t=GV at *
 generalize movesP f t=P at *
 generalize wavE X f t=EL at *
 generalize planV X f t L=PV at *
 go_enter func23,ntmps23
 go_upto_region 1 with fail
 generalize w.alloc (.cells #[.slice va vn vc,iv] 25)=W at *
 have c0:=HB0.out.c0
 have c1:=HB0.out.c1
 go_wp2_with fail
 refine(HGR.out _ HB0.out.bel).mono ?_
 rintro e w1 ⟨nv,ev,rfl,hrn,hre,hb1⟩
 have HB1:=zh (HB0.out.below hb1)
 obtain⟨na,nc,rfl,_⟩:=z01 hrn
 obtain⟨ea,ec,rfl⟩:=zo hre
 have hgb:=zb8 w1 (.slice na GV.1.1.length nc) (.slice ea GV.1.2.length ec)
 have HGB:=zh hgb.2
 have HB2:=zh (HB1.out.below hgb.1)
 have HRN:=zh ((hrn.below hgb.1 (zq _)).mono hgb.1.size)
 clear hb1 hrn hre hgb c0 c1 HGR HB0 HB1
 by_cases h0:E=0
 case neg =>
  have hG:=HG1.out h0
  subst hG
  have h0b:(E != 0)=true:=by simpa using h0
  have HB3:=zh HB2.out.bel
  have HV:=zh (HV1.out h0)
  clear HBT HCS HG0 HG1 HV0 HV1 HV2 HRN HGB HB2 HNA HPN
  go_wp2_with fail
  go_ret
  exact⟨by rw [HV.out];rfl,HB3.out⟩
 subst h0
 have hG:=HG0.out rfl
 subst hG
 simp only at HRN
 have HVB:=zh (HV0.out rfl)
 have HVO:=zh (HV2.out rfl)
 have HPP:=zh (HPN.out rfl)
 clear HV0 HV1 HV2 HG0 HG1 HPN
 go_upto_region 4 with fail
 generalize w1.alloc (.cells #[.slice na P.length nc,.slice ea EL.length ec] 32)=w2 at *
 generalize w1.heap.size=gg at *
 have HHS:Hid (∀ W (p:ByteArray),Below w2.heap.size w2 W→Calls prog 46 #[.slice na P.length nc,.string p] W fun e w'=>e=.returned (.bool (decide (p∈P)))∧Below W.heap.size W w'):=zh (fun W p hb=>z42 _ P p W (by omega) ((HRN.out.below hb (zq _)).mono hb.size))
 have HGC:Hid (∀ W,Below w2.heap.size w2 W→W.cell? ⟨gg,0,none⟩=some (.slice na P.length nc)):=zh (fun W hb=>blk0 ((hb.block _ (zb HGB.out)).trans HGB.out))
 have HXC:Hid (∀ W,Below w2.heap.size w2 W→HeldX w.heap.size (.slice va vn vc) iv W):=zh (fun W hb=>⟨(HB2.out.below hb).c0,(HB2.out.below hb).c1⟩)
 have HBW0:Hid (∀ W,Below w2.heap.size w2 W→Below w.heap.size w W):=zh (fun W hb=>HB2.out.bel.trans (hb.mono HB2.out.bel.size))
 have hbq:=belQ w2 (.cells #[] 9)
 have HO0:Hid ((w2.alloc (.cells #[] 9)).ownsRow w2.heap.size 9 1 (.slice (some ⟨w2.heap.size,0,none⟩) 0 0) 0 (strsC [])):=zh ⟨rfl,.inr ⟨w2.heap.size,0,#[],rfl,zq _,zn w2 _,zq _,by unfold maxLen;omega,rfl,rfl⟩⟩
 have HBS:=zh hbq
 clear HRN HGB hbq HB2
 obtain⟨i0,hi0',hz0,hz1,hz2⟩:=info_parts z1z
 go_upto_region 5 with fail
 generalize w2.alloc (.cells #[] 9)=w3 at *
 go_wp2_with fail
 go_loopw [11,12] (fun ov p wr=>Hid (∃ (i:Nat) (all:List ByteArray),i≤L.length∧p=.int .i64 (i:Int)∧wr.ownsRow w2.heap.size 9 1 ov all.length (strsC all)∧ChkI P L i [] 0 all∧Below w2.heap.size w2 wr)) (fun _ p _=>L.length - (intOf p).toNat)
 case atStart=>exact zh ⟨0,[],Nat.zero_le _,rfl,HO0.out,ChkI.start _ _ _,HBS.out⟩
 case round =>
  obtain⟨i,all,hi,rfl,ho,hc,hb⟩:=hrel.out
  have HO:=zh ho
  have HC:=zh hc
  have HB:=zh hb
  obtain⟨oa,oc,rfl⟩:=z05 ho
  clear hrel ho hc hb HO0 HBS
  have hln:=HLN.out wr
  by_cases hlt:i<L.length
  case neg =>
   have hii:i=L.length:=Nat.le_antisymm hi (Nat.le_of_not_lt hlt)
   clear hi
   subst hii
   have g0:=HGC.out wr HB.out
   have HDN:=zh (HC.out.done HPP.out)
   have HAL:Hid (all.length≤1000000):=zh (by
    have:=zh9 HC.out (zq _) HLR.out (Nat.zero_le _)
    omega)
   by_cases hal:all.length=P.length
   case neg =>
    have hal2:((all.length:Int) != (P.length:Int))=true:=by simp;omega
    have hal3:((all.length:Int) == (P.length:Int))=false:=by simp;omega
    have HV:=zh (HVB.out (HDN.out.2 hal))
    have HBW:=zh (HBW0.out wr HB.out)
    clear HDN HBT HCS HHS HVO HVB
    go_wp2_with fail
    try rw [hln]
    try clear hln
    go_wp2_with fail
    go_ret
    exact⟨by rw [HV.out];rfl,HBW.out⟩
   have HPL:=zh (HVO.out (HDN.out.1 hal))
   have hal2:((all.length:Int) != (P.length:Int))=false:=by simp;omega
   have hal3:((all.length:Int) == (P.length:Int))=true:=by simp;omega
   have hbq:=belQ wr (.cells #[] 9)
   have HO3:Hid ((wr.alloc (.cells #[] 9)).ownsRow w2.heap.size 9 1 (.slice (some ⟨wr.heap.size,0,none⟩) 0 0) 0 (strsC [])):=zh ⟨rfl,.inr ⟨wr.heap.size,0,#[],rfl,HB.out.size,zn wr _,zq _,by unfold maxLen;omega,rfl,rfl⟩⟩
   have HB3:=zj HB hbq
   clear hbq HDN HC HO HB hal HVB HVO HHS
   go_upto_region 19 with fail
   try rw [hln]
   try clear hln
   try go_upto_region 19 with fail
   generalize wr.alloc (.cells #[] 9)=w4 at *
   generalize wr.heap.size=g4 at *
   go_wp2_with fail
   go_loopw [14,15] (fun ov p wr=>Hid (∃ (k:Nat),k≤L.length∧p=.int .i64 (k:Int)∧wr.ownsRow w2.heap.size 9 1 ov (L.take k).flatten.length (strsC (L.take k).flatten)∧(∀ j,j<k→consV X (betV f t (L.take (j+1)).flatten)=0)∧Below w2.heap.size w2 wr)) (fun _ p _=>L.length - (intOf p).toNat)
   case atStart=>exact zh ⟨0,Nat.zero_le _,rfl,HO3.out,fun j hj=>absurd hj (Nat.not_lt_zero j),HB3.out⟩
   case round =>
    obtain⟨k,hk,rfl,ho,hgd,hb⟩:=hrel.out
    have HO:=zh ho
    have HB:=zh hb
    have HGD:=zh hgd
    obtain⟨oa2,oc2,rfl⟩:=z05 ho
    clear hrel ho hb hgd HO3 HB3
    have hs8:=HB.out.size
    have HBW:=zh (HBW0.out wr HB.out)
    have hln:=HLN.out wr
    by_cases hlt:k<L.length
    case neg =>
     have hkL:k=L.length:=Nat.le_antisymm hk (Nat.not_lt.1 hlt)
     have HV:=zh (HPL.out.2 (fun j hj=>HGD.out j (by rw [hkL];exact hj)))
     clear hkL HGD HPL HO
     go_wp2_with fail
     try rw [hln]
     try clear hln
     go_wp2_with fail
     go_ret
     exact⟨by rw [HV.out];rfl,HBW.out⟩
    case pos =>
     have hk0:(0:Int)≤(k:Int):=Int.natCast_nonneg k
     have hkz:(k:Int)<(L.length:Int):=Int.ofNat_lt.2 hlt
     obtain⟨b,off,ra,rc,rfl,hnr,_⟩:=HNA.out k _ (ze hlt)
     obtain⟨d0,hr⟩:=hnr wr HBW.out
     have HRW:=zh hr
     have HFT:=zh (z6y hlt)
     have hfl:=HFX.out (k+1)
     rw [HFT.out,List.length_append]at hfl
     have HCX:=zh (HCS.out (k+1))
     have HBX:=zh (HBT.out (k+1))
     have HP17:Hid (consV X (betV f t (L.take (k+1)).flatten)≠0→PV=17):=zh (fun h=>HPL.out.1 k hlt h)
     clear hr hnr
     generalize L[k]=row at *
     have HFL:Hid ((L.take (k+1)).flatten.length=(L.take k).flatten.length+row.length):=zh (by rw [HFT.out,List.length_append])
     generalize hK:(L.take k).flatten=K at *
     clear hK
     obtain⟨C,hC⟩:∃ C,consV X (betV f t (L.take (k+1)).flatten)=C:=⟨_,rfl⟩
     rw [hC]at HCX HP17
     have HC:=zh hC
     clear hC
     go_upto_region 22 with fail
     try rw [hln]
     try clear hln
     try go_upto_region 22 with fail
     go_upto_region 23 with (at_builtin;refine z2d rfl _ _ rfl w2.heap.size (.slice oa2 K.length oc2) K.length K (by rfl) HO.out (.slice ra row.length rc) row (by rfl) HRW.out (by omega) hs8 ?_;intro v' wB hown' hgrow;have HOW:=zh hown';have HGR:=zh hgrow;clear hown' hgrow;obtain⟨da,dc,rfl⟩:∃ a c,v'=.slice a (K.length+row.length) c:=z05 HOW.out)
     have HBE:=zh (HB.out.grown HGR.out hs8 (fun b hb=>(z0g HO.out b hb).1))
     have HOE:Hid (wB.ownsRow w2.heap.size 9 1 (.slice da (K.length+row.length) dc) (L.take (k+1)).flatten.length (strsC (L.take (k+1)).flatten)):=zh (by rw [HFL.out,HFT.out];exact HOW.out)
     have HBQ:Hid (Below wB.heap.size wB wB.drew):=zh (Below.refl _ _).drew
     have HBD:=zh (HBE.out.trans (HBQ.out.mono HBE.out.size))
     have HRB:Hid (RowOf Value.string wB.drew.heap.size (.slice da (K.length+row.length) dc) (L.take (k+1)).flatten wB.drew):=zh (((z29 HOE.out).2.below HBQ.out (zq _)).mono HBQ.out.size)
     have HBC:=zh (HBX.out wB.drew _ (HBW0.out _ HBD.out) HRB.out)
     clear HOW HGR HO HRW HB HBX HBW HRB d0
     by_cases hc0:C=0
     case pos =>
      have hc1:(C != 0)=false:=by rw [hc0];rfl
      subst hc0
      refine wp_region_noPanic ?_
      refine wp_region_held_drew (S:=HeldX w.heap.size (.slice va vn vc) iv) (by kernel_rfl) (HXC.out _ HBD.out) (fun hS0=>?_)
      refine zt 0 _ rfl ?_;simp only [zl1];refine zt 1 _ rfl ?_;simp only [zl1];refine zt 2 _ rfl ?_;simp only [zl1];refine zt 3 _ rfl ?_;simp only [zl1]
      refine zr 4 rfl fun K hK=>?_
      go_simp
      refine(HBC.out).mono ?_
      rintro e w7 ⟨v7,rfl,hs7,hb7⟩
      have HB7:=zj HBD hb7
      have HBb7:=zj HBQ hb7
      have HCN:=zh (HCX.out w7 _ (HBW0.out _ HB7.out) hs7)
      obtain⟨qa,qn,qc,rfl⟩:∃ a n c,v7=.slice a n c:=by obtain⟨a,c,e,_⟩:=hs7;exact⟨a,_,c,e⟩
      clear hS0
      have hS0:=HXC.out _ HB7.out
      refine hK.out _ _ hS0 (fun _=>?_)
      clear hK K hb7 hs7
      (try simp only [zl1])
      refine zr 5 rfl fun K hK=>?_
      go_simp
      refine(HCN.out).mono ?_
      rintro e w8 ⟨rfl,hb8⟩
      have HB8:=zj HB7 hb8
      have HBb8:=zj HBb7 hb8
      clear hS0
      have hS0:=HXC.out _ HB8.out
      refine hK.out _ _ hS0 (fun _=>?_)
      clear hK K hb8
      (try simp only [zl1])
      refine zt 6 _ rfl ?_;simp only [zl1]
      refine wpAnyH_done (by kernel_rfl) ?_ _
      refine NoPanic.normal ?_
      have HO8:=zh (z07 HOE.out HBb8.out)
      go_wp2_with fail
      all_goals
       refine⟨zh ⟨k+1,hlt,by go_num,by first | exact HO8.out | (rw [HFL.out];exact HO8.out),fun j hj=>?_,HB8.out⟩,?_⟩
       ·by_cases hjk:j<k
        ·exact HGD.out j hjk
        ·obtain rfl:j=k:=Nat.le_antisymm (Nat.lt_succ_iff.1 hj) (Nat.not_lt.1 hjk)
         exact HC.out
       ·simp [intOf];omega
     case neg =>
      have hc1:(C != 0)=true:=by simpa using hc0
      have HV:=zh (HP17.out hc0)
      refine wp_region_noPanic ?_
      refine wp_region_held_drew (S:=HeldX w.heap.size (.slice va vn vc) iv) (by kernel_rfl) (HXC.out _ HBD.out) (fun hS0=>?_)
      refine zt 0 _ rfl ?_;simp only [zl1];refine zt 1 _ rfl ?_;simp only [zl1];refine zt 2 _ rfl ?_;simp only [zl1];refine zt 3 _ rfl ?_;simp only [zl1]
      refine zr 4 rfl fun K hK=>?_
      go_simp
      refine(HBC.out).mono ?_
      rintro e w7 ⟨v7,rfl,hs7,hb7⟩
      have HB7:=zj HBD hb7
      have HBb7:=zj HBQ hb7
      have HCN:=zh (HCX.out w7 _ (HBW0.out _ HB7.out) hs7)
      obtain⟨qa,qn,qc,rfl⟩:∃ a n c,v7=.slice a n c:=by obtain⟨a,c,e,_⟩:=hs7;exact⟨a,_,c,e⟩
      clear hS0
      have hS0:=HXC.out _ HB7.out
      refine hK.out _ _ hS0 (fun _=>?_)
      clear hK K hb7 hs7
      (try simp only [zl1])
      refine zr 5 rfl fun K hK=>?_
      go_simp
      refine(HCN.out).mono ?_
      rintro e w8 ⟨rfl,hb8⟩
      have HB8:=zj HB7 hb8
      have HBb8:=zj HBb7 hb8
      clear hS0
      have hS0:=HXC.out _ HB8.out
      refine hK.out _ _ hS0 (fun _=>?_)
      clear hK K hb8
      (try simp only [zl1])
      refine zt 6 _ rfl ?_;simp only [zl1]
      refine wpAnyH_done (by kernel_rfl) ?_ _
      refine NoPanic.normal ?_
      have HBF:=zh (HBW0.out _ HB8.out)
      go_wp2_with fail
      go_ret
      exact⟨by rw [HV.out];rfl,HBF.out⟩
  case pos =>
   have hi0:(0:Int)≤(i:Int):=Int.natCast_nonneg i
   have hiz:(i:Int)<(L.length:Int):=Int.ofNat_lt.2 hlt
   have HLK:Hid (L[i]? = some L[i]):=zh (ze hlt)
   obtain⟨b,off,ra,rc,rfl,hnr,hrp⟩:=HNA.out i _ HLK.out
   have HNR:=zh hnr
   have HRP:=zh hrp
   have HBE:=zh (fun(h:L[i]=[])=>HVB.out (ChkI.bad_empty hlt h))
   have HRL:=zh (HLR.out _ (List.getElem_mem hlt))
   have HNX:=zh (fun all (h:ChkI P L i L[i] L[i].length all) (hne:L[i]≠[])=>h.next hlt hne [])
   have HBL:=zh (fun k (hk:k<L[i].length) (hk0:0<k) (h:ltB (L[i].getD (k - 1) default) L[i][k]=false)=>HVB.out (ChkI.bad_le hlt hk hk0 h))
   have HBI:=zh (fun k all (hk:k<L[i].length) (hc:ChkI P L i L[i] k all) (h:L[i][k]∈all)=>HVB.out (ChkI.bad_in hlt hc hk h))
   have HBO:=zh (fun k (hk:k<L[i].length) (h:L[i][k] ∉ P)=>HVB.out (ChkI.bad_out hlt hk h))
   have HCL:=zh (fun k all (hk:k≤20) (hc:ChkI P L i L[i] k all)=>(zh9 hc (Nat.le_of_lt hlt) HLR.out hk))
   have HC1:=zh (HC.out.turn L[i])
   have d0:=(hnr wr (HBW0.out wr HB.out)).1
   clear hnr hrp HC
   generalize L[i]=row at *
   by_cases hz:row=[]
   case pos =>
    have HV:=zh (HBE.out hz)
    have HBW:=zh (HBW0.out wr HB.out)
    subst hz
    simp only [List.length_nil]at *
    clear HBT HCS HHS HVO HVB HNX HBL HBI HBO HCL HC1 HNR HRP
    go_wp2_with fail
    try rw [hln]
    try clear hln
    go_wp2_with fail
    go_ret
    exact⟨by rw [HV.out];rfl,HBW.out⟩
   have hzl:0<row.length:=List.length_pos_iff.2 hz
   have hz1':((row.length:Int) == 0)=false:=by simp;exact hz
   have hz2':¬ (row.length:Int)=0:=by omega
   have hz3':decide ((row.length:Int)=0)=false:=decide_eq_false hz2'
   have HNE:=zh hz
   have hrl20:=HRL.out
   clear hz HBE
   go_upto_region 10 with fail
   try rw [hln]
   try clear hln
   try go_upto_region 10 with fail
   clear d0
   go_wp2_with fail
   go_loopw [11,13] (fun ov p wr=>Hid (∃ (k:Nat) (all:List ByteArray),k≤row.length∧p=.int .i64 (k:Int)∧wr.ownsRow w2.heap.size 9 1 ov all.length (strsC all)∧ChkI P L i row k all∧Below w2.heap.size w2 wr)) (fun _ p _=>row.length - (intOf p).toNat)
   case atStart=>exact zh ⟨0,all,Nat.zero_le _,rfl,HO.out,HC1.out,HB.out⟩
   case round =>
    clear HO HC1 HB
    obtain⟨k,all,hk,rfl,ho,hc,hb⟩:=hrel.out
    have HO:=zh ho
    have HC:=zh hc
    have HB:=zh hb
    obtain⟨oa,oc,rfl⟩:=z05 ho
    clear hrel ho hc hb
    have HBW:=zh (HBW0.out wr HB.out)
    have d0:=(HNR.out wr HBW.out).1
    by_cases hltk:k<row.length
    case neg =>
     have hkk:k=row.length:=Nat.le_antisymm hk (Nat.le_of_not_lt hltk)
     clear hk
     subst hkk
     have HC2:=zh (HNX.out all HC.out HNE.out)
     clear HC HBT HCS HHS HVO HVB HNX HBL HBI HBO HCL HNR HRP
     go_wp2_with fail
     all_goals
      refine⟨zh ⟨i+1,all,hlt,by go_num,HO.out,HC2.out,HB.out⟩,?_⟩
      simp [intOf];omega
    case pos =>
     have hk0:(0:Int)≤(k:Int):=Int.natCast_nonneg k
     have hkz:(k:Int)<(row.length:Int):=Int.ofNat_lt.2 hltk
     have hal:all.length≤1000:=by
      have:=HCL.out k all (by omega) HC.out
      omega
     have HRK:Hid (row[k]? = some row[k]):=zh (ze hltk)
     have HBI2:=zh (HBI.out k all hltk HC.out)
     have HBO2:=zh (HBO.out k hltk)
     have HBL2:=zh (HBL.out k hltk)
     have HPS:=zh (HC.out.push hltk)
     obtain⟨b2,off2,rfl,hcp⟩:=HRP.out k _ HRK.out
     have HCP:=zh hcp
     clear hcp
     generalize row[k]=p at *
     have HAS:=zh (fun W (hb:Below wr.heap.size wr W)=>z42 (.slice oa all.length oc) all p W (by omega) (((z29 HO.out).2.below hb (zq _)).mono hb.size))
     have HHP:=zh (fun W (hb:Below wr.heap.size wr W)=>HHS.out W p (HB.out.trans (hb.mono HB.out.size)))
     go_upto_region 13 with fail
     clear d0
     by_cases hk1:k=0
     case pos =>
      have hkc:(k:Int)=0:=by omega
      have hkt:decide ((0:Int)<(k:Int))=false:=by simp;omega
      have hkd:decide (0<k)=false:=decide_eq_false (by omega)
      have HLE:Hid (k=0∨ltB (row.getD (k - 1) default) p=true):=zh (.inl hk1)
      have HSB:Hid (∀ W,Below wr.heap.size wr W→HeldC48 gg (.slice na P.length nc) b (off+i) (.slice (some ⟨b2,off2,none⟩) row.length rc) b2 (off2+k) (off2+k) p p W):=zh (fun W hb=>by
       have h1:=HBW.out.trans (hb.mono HBW.out.size)
       exact⟨HGC.out W (HB.out.trans (hb.mono HB.out.size)),(HNR.out W h1).1,HCP.out W h1,HCP.out W h1⟩)
      clear hkc hk1
      by_cases hin:p∈all
      case pos =>
       have HV:=zh (HBI2.out hin)
       have hd1:=decide_eq_true hin
       clear HPS HBI2 HBO2 HHP HBT HCS HHS HVO HVB HNX HBL HBI HBO HCL HNR HRP HCP HLE
       refine wp_region_noPanic ?_
       refine wp_region_held_drew (S:=HeldC48 gg (.slice na P.length nc) b (off+i) (.slice (some ⟨b2,off2,none⟩) row.length rc) b2 (off2+k) (off2+k) p p) (by kernel_rfl) (HSB.out _ (Below.refl _ _).drew) (fun hS0=>?_)
       refine zt 0 _ rfl ?_;simp only [zl1];refine zt 1 _ rfl ?_;simp only [zl1];refine zt 2 _ rfl ?_;simp only [zl1];refine zu 3 rfl ?_;simp only [zl1];refine zu 4 rfl ?_;simp only [zl1];refine zu 5 rfl ?_;simp only [zl1];refine zu 6 rfl ?_;simp only [zl1];refine zu 7 rfl ?_;simp only [zl1];refine zu 8 rfl ?_;simp only [zl1];refine zu 9 rfl ?_;simp only [zl1];refine zu 10 rfl ?_;simp only [zl1]
       refine zu 11 rfl ?_;simp only [zl1];refine zu 12 rfl ?_;simp only [zl1];refine zu 13 rfl ?_;simp only [zl1];refine zu 14 rfl ?_;simp only [zl1];refine zu 15 rfl ?_;simp only [zl1];refine zu 16 rfl ?_;simp only [zl1];refine zu 17 rfl ?_;simp only [zl1];refine zu 18 rfl ?_;simp only [zl1];refine zt 19 _ rfl ?_;simp only [zl1];refine zt 20 _ rfl ?_;simp only [zl1];refine zt 21 _ rfl ?_;simp only [zl1]
       refine zt 22 _ rfl ?_;simp only [zl1];refine zt 23 _ rfl ?_;simp only [zl1];refine zt 24 _ rfl ?_;simp only [zl1];refine zt 25 _ rfl ?_;simp only [zl1];refine zt 26 _ rfl ?_;simp only [zl1];refine zt 27 _ rfl ?_;simp only [zl1];refine zt 28 _ rfl ?_;simp only [zl1]
       refine zr 29 rfl fun K hK=>?_
       go_simp
       refine(HAS.out wr.drew (Below.refl _ _).drew).mono ?_
       rintro e w5 ⟨rfl,hb5⟩
       rw [hd1]
       have HB5:Hid (Below wr.heap.size wr w5):=zh ((Below.refl _ _).drew.trans hb5)
       clear hS0
       have hS0:=HSB.out _ HB5.out
       refine hK.out _ _ hS0 (fun _=>?_)
       clear hK K hb5
       (try simp only [zl1])
       refine zt 30 _ rfl ?_;simp only [zl1];refine zt 31 _ rfl ?_;simp only [zl1];refine zu 32 rfl ?_;simp only [zl1];refine zu 33 rfl ?_;simp only [zl1];refine zu 34 rfl ?_;simp only [zl1];refine zu 35 rfl ?_;simp only [zl1];refine zu 36 rfl ?_;simp only [zl1];refine zu 37 rfl ?_;simp only [zl1];refine zu 38 rfl ?_;simp only [zl1];refine zu 39 rfl ?_;simp only [zl1];refine zu 40 rfl ?_;simp only [zl1]
       refine zu 41 rfl ?_;simp only [zl1];refine zu 42 rfl ?_;simp only [zl1];refine zt 43 _ rfl ?_;simp only [zl1]
       refine wpAnyH_done (by kernel_rfl) ?_ _
       refine NoPanic.normal ?_
       clear HAS
       clear hS0 HSB
       go_wp2_with fail
       go_ret
       exact⟨by rw [HV.out];rfl,HBW.out.trans (HB5.out.mono HBW.out.size)⟩
      have hd1:=decide_eq_false hin
      have HPS2:=zh (HPS.out HLE.out hin)
      clear HPS HBI2
      refine wp_region_noPanic ?_
      refine wp_region_held_drew (S:=HeldC48 gg (.slice na P.length nc) b (off+i) (.slice (some ⟨b2,off2,none⟩) row.length rc) b2 (off2+k) (off2+k) p p) (by kernel_rfl) (HSB.out _ (Below.refl _ _).drew) (fun hS0=>?_)
      refine zt 0 _ rfl ?_;simp only [zl1];refine zt 1 _ rfl ?_;simp only [zl1];refine zt 2 _ rfl ?_;simp only [zl1];refine zu 3 rfl ?_;simp only [zl1];refine zu 4 rfl ?_;simp only [zl1];refine zu 5 rfl ?_;simp only [zl1];refine zu 6 rfl ?_;simp only [zl1];refine zu 7 rfl ?_;simp only [zl1];refine zu 8 rfl ?_;simp only [zl1];refine zu 9 rfl ?_;simp only [zl1];refine zu 10 rfl ?_;simp only [zl1]
      refine zu 11 rfl ?_;simp only [zl1];refine zu 12 rfl ?_;simp only [zl1];refine zu 13 rfl ?_;simp only [zl1];refine zu 14 rfl ?_;simp only [zl1];refine zu 15 rfl ?_;simp only [zl1];refine zu 16 rfl ?_;simp only [zl1];refine zu 17 rfl ?_;simp only [zl1];refine zu 18 rfl ?_;simp only [zl1];refine zt 19 _ rfl ?_;simp only [zl1];refine zt 20 _ rfl ?_;simp only [zl1];refine zt 21 _ rfl ?_;simp only [zl1]
      refine zt 22 _ rfl ?_;simp only [zl1];refine zt 23 _ rfl ?_;simp only [zl1];refine zt 24 _ rfl ?_;simp only [zl1];refine zt 25 _ rfl ?_;simp only [zl1];refine zt 26 _ rfl ?_;simp only [zl1];refine zt 27 _ rfl ?_;simp only [zl1];refine zt 28 _ rfl ?_;simp only [zl1]
      refine zr 29 rfl fun K hK=>?_
      go_simp
      refine(HAS.out wr.drew (Below.refl _ _).drew).mono ?_
      rintro e w5 ⟨rfl,hb5⟩
      rw [hd1]
      have HB5:Hid (Below wr.heap.size wr w5):=zh ((Below.refl _ _).drew.trans hb5)
      clear hS0
      have hS0:=HSB.out _ HB5.out
      refine hK.out _ _ hS0 (fun _=>?_)
      clear hK K hb5
      (try simp only [zl1])
      refine zt 30 _ rfl ?_;simp only [zl1];refine zt 31 _ rfl ?_;simp only [zl1];refine zt 32 _ rfl ?_;simp only [zl1];refine zt 33 _ rfl ?_;simp only [zl1];refine zt 34 _ rfl ?_;simp only [zl1];refine zt 35 _ rfl ?_;simp only [zl1];refine zt 36 _ rfl ?_;simp only [zl1];refine zt 37 _ rfl ?_;simp only [zl1];refine zt 38 _ rfl ?_;simp only [zl1];refine zt 39 _ rfl ?_;simp only [zl1]
      refine zt 40 _ rfl ?_;simp only [zl1]
      refine zr 41 rfl fun K hK=>?_
      go_simp
      refine(HHP.out w5 HB5.out).mono ?_
      rintro e w6 ⟨rfl,hb6⟩
      have HB6:Hid (Below wr.heap.size wr w6):=zh (HB5.out.trans (hb6.mono HB5.out.size))
      clear hS0
      have hS0:=HSB.out _ HB6.out
      refine hK.out _ _ hS0 (fun _=>?_)
      clear hK K hb6
      (try simp only [zl1])
      refine zt 42 _ rfl ?_;simp only [zl1];refine zt 43 _ rfl ?_;simp only [zl1]
      refine wpAnyH_done (by kernel_rfl) ?_ _
      refine NoPanic.normal ?_
      clear hS0 HSB HAS HHP
      have HBW6:=zh (HBW.out.trans (HB6.out.mono HBW.out.size))
      by_cases hip:p∈P
      case neg =>
       have HV:=zh (HBO2.out hip)
       have hd2:=decide_eq_false hip
       rw [hd2]
       simp only [Bool.not_false]
       clear HPS2 HBO2
       go_wp2_with fail
       go_ret
       exact⟨by rw [HV.out];rfl,HBW6.out⟩
      have HC3:=zh (HPS2.out hip)
      have hd2:=decide_eq_true hip
      rw [hd2]
      simp only [Bool.not_true]
      have HBA:=zh (HB.out.trans (HB6.out.mono HB.out.size))
      have e0:=(HNR.out w6 HBW6.out).1
      have e1:=HCP.out w6 HBW6.out
      have hbq:=belQ w6 (.cells #[.string p] 9)
      have HN9:=zh (zn w6 (.cells #[.string p] 9))
      have HO9:=zh (z07 (z07 HO.out HB6.out) hbq)
      have HB9:=zj HBA hbq
      have hsz9:w2.heap.size≤(w6.alloc (.cells #[.string p] 9)).heap.size:=HB9.out.size
      clear hbq HPS2 HBO2 hd1 hd2 HO HBA HB6 HBW6
      go_wp2_with (at_builtin;refine wpList_append_own _ rfl _ _ 29 rfl w2.heap.size 9 i0 _ 1 16 underlying29 hi0' hz0 hz1 hz2 rfl (by decide) (.slice oa all.length oc) all.length _ (by rfl) HO9.out ⟨w6.heap.size,0,none⟩ 1 1 [.string p] (by rfl) (by rfl) (World.news_of_block HN9.out) (by simp [Value.oneCell']) (by unfold maxLen;omega) (by omega) hsz9 ?_;intro v' wC hown' hgrow _;have HOW:=zh hown';have HGR:=zh hgrow;clear hown' hgrow;obtain⟨g9,gc9,rfl⟩:=ownsRow_succ HOW.out)
      all_goals
       have HB10:=zh (HB9.out.grown HGR.out hsz9 (fun b hb=>(z0g HO9.out b hb).1))
       have HOL:Hid (wC.ownsRow w2.heap.size 9 1 (.slice (some ⟨g9,0,none⟩) (all.length+1) gc9) (all++[p]).length (strsC (all++[p]))):=zh (by rw [z1v,List.length_append];exact HOW.out)
       refine⟨zh ⟨k+1,all++[p],hltk,by go_num,HOL.out,HC3.out,HB10.out⟩,?_⟩
       simp [intOf];omega
     have hkp:0<k:=by omega
     have hng:(0:Int)<(k:Int):=by omega
     have hkt:decide ((0:Int)<(k:Int))=true:=decide_eq_true hng
     have hkd:decide (0<k)=true:=decide_eq_true hkp
     have hsub:wrap64 ((k:Int) - 1)=((k - 1:Nat):Int):=by rw [show((k:Int) - 1)=((k - 1:Nat):Int) by omega];unfold wrap64;omega
     have hsub2:IntKind.i64.wrap ((k:Int) - 1)=((k - 1:Nat):Int):=by rw [IntWalk.i64_in _ (by omega)];omega
     have hl0:(0:Int)≤((k - 1:Nat):Int):=by omega
     have hl1:((k - 1:Nat):Int)<(row.length:Int):=by omega
     have HQK:Hid (row[k - 1]? = some (row.getD (k - 1) default)):=zh (by rw [zg,ze (show k - 1<row.length by omega)];rfl)
     obtain⟨b3,off3,e3,hcq⟩:=HRP.out (k - 1) _ HQK.out
     cases e3
     have HCQ:=zh hcq
     clear hcq
     obtain⟨q,hq⟩:∃ q,row.getD (k - 1) default=q:=⟨_,rfl⟩
     rw [hq]at HCQ HBL2 HPS
     clear hq HQK
     have HSB:Hid (∀ W,Below wr.heap.size wr W→HeldC48 gg (.slice na P.length nc) b (off+i) (.slice (some ⟨b2,off2,none⟩) row.length rc) b2 (off2+k) (off2+(k - 1)) p q W):=zh (fun W hb=>by
      have h1:=HBW.out.trans (hb.mono HBW.out.size)
      exact⟨HGC.out W (HB.out.trans (hb.mono HB.out.size)),(HNR.out W h1).1,HCP.out W h1,HCQ.out W h1⟩)
     by_cases he:p=q
     case pos =>
      have hle:=z46 p p
      rw [z0c]at hle
      simp only [Bool.not_false]at hle
      have HV:=zh (HBL2.out hkp (by rw [he,z0c]))
      subst he
      clear HBL2 HPS HBI2 HBO2 HAS HHP HBT HCS HHS HVO HVB HNX HBL HBI HBO HCL HNR HRP HCP HCQ
      refine wp_region_noPanic ?_
      refine wp_region_held_drew (S:=HeldC48 gg (.slice na P.length nc) b (off+i) (.slice (some ⟨b2,off2,none⟩) row.length rc) b2 (off2+k) (off2+(k - 1)) p p) (by kernel_rfl) (HSB.out _ (Below.refl _ _).drew) (fun hS0=>?_)
      refine zt 0 _ rfl ?_;simp only [zl1];refine zt 1 _ rfl ?_;simp only [zl1];refine zt 2 _ rfl ?_;simp only [zl1];refine zt 3 _ rfl ?_;simp only [zl1];refine zt 4 _ rfl ?_;simp only [zl1];refine zt 5 _ rfl ?_;simp only [zl1];refine zt 6 _ rfl ?_;simp only [zl1];refine zt 7 _ rfl ?_;simp only [zl1];refine zt 8 _ rfl ?_;simp only [zl1];refine zt 9 _ rfl ?_;simp only [zl1]
      refine zt 10 _ rfl ?_;simp only [zl1];refine zt 11 _ rfl ?_;simp only [zl1];refine zt 12 _ rfl ?_;simp only [zl1];refine zt 13 _ rfl ?_;simp only [zl1];refine zt 14 _ rfl ?_;simp only [zl1];refine zt 15 _ rfl ?_;simp only [zl1];refine zt 16 _ rfl ?_;simp only [zl1];refine zt 17 _ rfl ?_;simp only [zl1];refine zt 18 _ rfl ?_;simp only [zl1];refine zt 19 _ rfl ?_;simp only [zl1]
      refine zt 20 _ rfl ?_;simp only [zl1];refine zu 21 rfl ?_;simp only [zl1];refine zu 22 rfl ?_;simp only [zl1];refine zu 23 rfl ?_;simp only [zl1];refine zu 24 rfl ?_;simp only [zl1];refine zu 25 rfl ?_;simp only [zl1];refine zu 26 rfl ?_;simp only [zl1];refine zu 27 rfl ?_;simp only [zl1];refine zu 28 rfl ?_;simp only [zl1];refine zu 29 rfl ?_;simp only [zl1];refine zt 30 _ rfl ?_;simp only [zl1]
      refine zt 31 _ rfl ?_;simp only [zl1];refine zu 32 rfl ?_;simp only [zl1];refine zu 33 rfl ?_;simp only [zl1];refine zu 34 rfl ?_;simp only [zl1];refine zu 35 rfl ?_;simp only [zl1];refine zu 36 rfl ?_;simp only [zl1];refine zu 37 rfl ?_;simp only [zl1];refine zu 38 rfl ?_;simp only [zl1];refine zu 39 rfl ?_;simp only [zl1];refine zu 40 rfl ?_;simp only [zl1];refine zu 41 rfl ?_;simp only [zl1]
      refine zu 42 rfl ?_;simp only [zl1];refine zt 43 _ rfl ?_;simp only [zl1]
      refine wpAnyH_done (by kernel_rfl) ?_ _
      refine NoPanic.normal ?_
      clear hS0 HSB
      go_wp2_with fail
      go_ret
      exact⟨by rw [HV.out];rfl,HBW.out.drew⟩
     have hpb:(p.toList == q.toList)=false:=by rw [z0q];exact decide_eq_false he
     cases hlq:ltB p q with
     | true =>
      have hbl:Op.bytesLess p.toList q.toList=true:=hlq
      have HV:=zh (HBL2.out hkp (z1n hlq))
      clear HBL2 HPS HBI2 HBO2 HAS HHP HBT HCS HHS HVO HVB HNX HBL HBI HBO HCL HNR HRP HCP HCQ hlq he
      refine wp_region_noPanic ?_
      refine wp_region_held_drew (S:=HeldC48 gg (.slice na P.length nc) b (off+i) (.slice (some ⟨b2,off2,none⟩) row.length rc) b2 (off2+k) (off2+(k - 1)) p q) (by kernel_rfl) (HSB.out _ (Below.refl _ _).drew) (fun hS0=>?_)
      refine zt 0 _ rfl ?_;simp only [zl1];refine zt 1 _ rfl ?_;simp only [zl1];refine zt 2 _ rfl ?_;simp only [zl1];refine zt 3 _ rfl ?_;simp only [zl1];refine zt 4 _ rfl ?_;simp only [zl1];refine zt 5 _ rfl ?_;simp only [zl1];refine zt 6 _ rfl ?_;simp only [zl1];refine zt 7 _ rfl ?_;simp only [zl1];refine zt 8 _ rfl ?_;simp only [zl1];refine zt 9 _ rfl ?_;simp only [zl1]
      refine zt 10 _ rfl ?_;simp only [zl1];refine zt 11 _ rfl ?_;simp only [zl1];refine zt 12 _ rfl ?_;simp only [zl1];refine zt 13 _ rfl ?_;simp only [zl1];refine zt 14 _ rfl ?_;simp only [zl1];refine zt 15 _ rfl ?_;simp only [zl1];refine zt 16 _ rfl ?_;simp only [zl1];refine zt 17 _ rfl ?_;simp only [zl1];refine zt 18 _ rfl ?_;simp only [zl1];refine zt 19 _ rfl ?_;simp only [zl1]
      refine zt 20 _ rfl ?_;simp only [zl1];refine zu 21 rfl ?_;simp only [zl1];refine zu 22 rfl ?_;simp only [zl1];refine zu 23 rfl ?_;simp only [zl1];refine zu 24 rfl ?_;simp only [zl1];refine zu 25 rfl ?_;simp only [zl1];refine zu 26 rfl ?_;simp only [zl1];refine zu 27 rfl ?_;simp only [zl1];refine zu 28 rfl ?_;simp only [zl1];refine zu 29 rfl ?_;simp only [zl1];refine zt 30 _ rfl ?_;simp only [zl1]
      refine zt 31 _ rfl ?_;simp only [zl1];refine zu 32 rfl ?_;simp only [zl1];refine zu 33 rfl ?_;simp only [zl1];refine zu 34 rfl ?_;simp only [zl1];refine zu 35 rfl ?_;simp only [zl1];refine zu 36 rfl ?_;simp only [zl1];refine zu 37 rfl ?_;simp only [zl1];refine zu 38 rfl ?_;simp only [zl1];refine zu 39 rfl ?_;simp only [zl1];refine zu 40 rfl ?_;simp only [zl1];refine zu 41 rfl ?_;simp only [zl1]
      refine zu 42 rfl ?_;simp only [zl1];refine zt 43 _ rfl ?_;simp only [zl1]
      refine wpAnyH_done (by kernel_rfl) ?_ _
      refine NoPanic.normal ?_
      clear hS0 HSB
      go_wp2_with fail
      go_ret
      exact⟨by rw [HV.out];rfl,HBW.out.drew⟩
     | false =>
      have hbl:Op.bytesLess p.toList q.toList=false:=hlq
      have HLE:Hid (k=0∨ltB q p=true):=zh (.inr (by
       cases hg:ltB q p with
       | true=>rfl
       | false=>exact absurd (z2i hlq hg) he))
      clear HBL2 hlq he HCQ
      by_cases hin:p∈all
      case pos =>
       have HV:=zh (HBI2.out hin)
       have hd1:=decide_eq_true hin
       clear HPS HBI2 HBO2 HHP HBT HCS HHS HVO HVB HNX HBL HBI HBO HCL HNR HRP HCP HLE
       refine wp_region_noPanic ?_
       refine wp_region_held_drew (S:=HeldC48 gg (.slice na P.length nc) b (off+i) (.slice (some ⟨b2,off2,none⟩) row.length rc) b2 (off2+k) (off2+(k - 1)) p q) (by kernel_rfl) (HSB.out _ (Below.refl _ _).drew) (fun hS0=>?_)
       refine zt 0 _ rfl ?_;simp only [zl1];refine zt 1 _ rfl ?_;simp only [zl1];refine zt 2 _ rfl ?_;simp only [zl1];refine zt 3 _ rfl ?_;simp only [zl1];refine zt 4 _ rfl ?_;simp only [zl1];refine zt 5 _ rfl ?_;simp only [zl1];refine zt 6 _ rfl ?_;simp only [zl1];refine zt 7 _ rfl ?_;simp only [zl1];refine zt 8 _ rfl ?_;simp only [zl1];refine zt 9 _ rfl ?_;simp only [zl1]
       refine zt 10 _ rfl ?_;simp only [zl1];refine zt 11 _ rfl ?_;simp only [zl1];refine zt 12 _ rfl ?_;simp only [zl1];refine zt 13 _ rfl ?_;simp only [zl1];refine zt 14 _ rfl ?_;simp only [zl1];refine zt 15 _ rfl ?_;simp only [zl1];refine zt 16 _ rfl ?_;simp only [zl1];refine zt 17 _ rfl ?_;simp only [zl1];refine zt 18 _ rfl ?_;simp only [zl1];refine zt 19 _ rfl ?_;simp only [zl1]
       refine zt 20 _ rfl ?_;simp only [zl1];refine zt 21 _ rfl ?_;simp only [zl1];refine zt 22 _ rfl ?_;simp only [zl1];refine zt 23 _ rfl ?_;simp only [zl1];refine zt 24 _ rfl ?_;simp only [zl1];refine zt 25 _ rfl ?_;simp only [zl1];refine zt 26 _ rfl ?_;simp only [zl1];refine zt 27 _ rfl ?_;simp only [zl1];refine zt 28 _ rfl ?_;simp only [zl1]
       refine zr 29 rfl fun K hK=>?_
       go_simp
       refine(HAS.out wr.drew (Below.refl _ _).drew).mono ?_
       rintro e w5 ⟨rfl,hb5⟩
       rw [hd1]
       have HB5:Hid (Below wr.heap.size wr w5):=zh ((Below.refl _ _).drew.trans hb5)
       clear hS0
       have hS0:=HSB.out _ HB5.out
       refine hK.out _ _ hS0 (fun _=>?_)
       clear hK K hb5
       (try simp only [zl1])
       refine zt 30 _ rfl ?_;simp only [zl1];refine zt 31 _ rfl ?_;simp only [zl1];refine zu 32 rfl ?_;simp only [zl1];refine zu 33 rfl ?_;simp only [zl1];refine zu 34 rfl ?_;simp only [zl1];refine zu 35 rfl ?_;simp only [zl1];refine zu 36 rfl ?_;simp only [zl1];refine zu 37 rfl ?_;simp only [zl1];refine zu 38 rfl ?_;simp only [zl1];refine zu 39 rfl ?_;simp only [zl1];refine zu 40 rfl ?_;simp only [zl1]
       refine zu 41 rfl ?_;simp only [zl1];refine zu 42 rfl ?_;simp only [zl1];refine zt 43 _ rfl ?_;simp only [zl1]
       refine wpAnyH_done (by kernel_rfl) ?_ _
       refine NoPanic.normal ?_
       clear HAS
       clear hS0 HSB
       go_wp2_with fail
       go_ret
       exact⟨by rw [HV.out];rfl,HBW.out.trans (HB5.out.mono HBW.out.size)⟩
      have hd1:=decide_eq_false hin
      have HPS2:=zh (HPS.out HLE.out hin)
      clear HPS HBI2
      refine wp_region_noPanic ?_
      refine wp_region_held_drew (S:=HeldC48 gg (.slice na P.length nc) b (off+i) (.slice (some ⟨b2,off2,none⟩) row.length rc) b2 (off2+k) (off2+(k - 1)) p q) (by kernel_rfl) (HSB.out _ (Below.refl _ _).drew) (fun hS0=>?_)
      refine zt 0 _ rfl ?_;simp only [zl1];refine zt 1 _ rfl ?_;simp only [zl1];refine zt 2 _ rfl ?_;simp only [zl1];refine zt 3 _ rfl ?_;simp only [zl1];refine zt 4 _ rfl ?_;simp only [zl1];refine zt 5 _ rfl ?_;simp only [zl1];refine zt 6 _ rfl ?_;simp only [zl1];refine zt 7 _ rfl ?_;simp only [zl1];refine zt 8 _ rfl ?_;simp only [zl1];refine zt 9 _ rfl ?_;simp only [zl1]
      refine zt 10 _ rfl ?_;simp only [zl1];refine zt 11 _ rfl ?_;simp only [zl1];refine zt 12 _ rfl ?_;simp only [zl1];refine zt 13 _ rfl ?_;simp only [zl1];refine zt 14 _ rfl ?_;simp only [zl1];refine zt 15 _ rfl ?_;simp only [zl1];refine zt 16 _ rfl ?_;simp only [zl1];refine zt 17 _ rfl ?_;simp only [zl1];refine zt 18 _ rfl ?_;simp only [zl1];refine zt 19 _ rfl ?_;simp only [zl1]
      refine zt 20 _ rfl ?_;simp only [zl1];refine zt 21 _ rfl ?_;simp only [zl1];refine zt 22 _ rfl ?_;simp only [zl1];refine zt 23 _ rfl ?_;simp only [zl1];refine zt 24 _ rfl ?_;simp only [zl1];refine zt 25 _ rfl ?_;simp only [zl1];refine zt 26 _ rfl ?_;simp only [zl1];refine zt 27 _ rfl ?_;simp only [zl1];refine zt 28 _ rfl ?_;simp only [zl1]
      refine zr 29 rfl fun K hK=>?_
      go_simp
      refine(HAS.out wr.drew (Below.refl _ _).drew).mono ?_
      rintro e w5 ⟨rfl,hb5⟩
      rw [hd1]
      have HB5:Hid (Below wr.heap.size wr w5):=zh ((Below.refl _ _).drew.trans hb5)
      clear hS0
      have hS0:=HSB.out _ HB5.out
      refine hK.out _ _ hS0 (fun _=>?_)
      clear hK K hb5
      (try simp only [zl1])
      refine zt 30 _ rfl ?_;simp only [zl1];refine zt 31 _ rfl ?_;simp only [zl1];refine zt 32 _ rfl ?_;simp only [zl1];refine zt 33 _ rfl ?_;simp only [zl1];refine zt 34 _ rfl ?_;simp only [zl1];refine zt 35 _ rfl ?_;simp only [zl1];refine zt 36 _ rfl ?_;simp only [zl1];refine zt 37 _ rfl ?_;simp only [zl1];refine zt 38 _ rfl ?_;simp only [zl1];refine zt 39 _ rfl ?_;simp only [zl1]
      refine zt 40 _ rfl ?_;simp only [zl1]
      refine zr 41 rfl fun K hK=>?_
      go_simp
      refine(HHP.out w5 HB5.out).mono ?_
      rintro e w6 ⟨rfl,hb6⟩
      have HB6:Hid (Below wr.heap.size wr w6):=zh (HB5.out.trans (hb6.mono HB5.out.size))
      clear hS0
      have hS0:=HSB.out _ HB6.out
      refine hK.out _ _ hS0 (fun _=>?_)
      clear hK K hb6
      (try simp only [zl1])
      refine zt 42 _ rfl ?_;simp only [zl1];refine zt 43 _ rfl ?_;simp only [zl1]
      refine wpAnyH_done (by kernel_rfl) ?_ _
      refine NoPanic.normal ?_
      clear hS0 HSB HAS HHP
      have HBW6:=zh (HBW.out.trans (HB6.out.mono HBW.out.size))
      by_cases hip:p∈P
      case neg =>
       have HV:=zh (HBO2.out hip)
       have hd2:=decide_eq_false hip
       rw [hd2]
       simp only [Bool.not_false]
       clear HPS2 HBO2
       go_wp2_with fail
       go_ret
       exact⟨by rw [HV.out];rfl,HBW6.out⟩
      have HC3:=zh (HPS2.out hip)
      have hd2:=decide_eq_true hip
      rw [hd2]
      simp only [Bool.not_true]
      have HBA:=zh (HB.out.trans (HB6.out.mono HB.out.size))
      have e0:=(HNR.out w6 HBW6.out).1
      have e1:=HCP.out w6 HBW6.out
      have hbq:=belQ w6 (.cells #[.string p] 9)
      have HN9:=zh (zn w6 (.cells #[.string p] 9))
      have HO9:=zh (z07 (z07 HO.out HB6.out) hbq)
      have HB9:=zj HBA hbq
      have hsz9:w2.heap.size≤(w6.alloc (.cells #[.string p] 9)).heap.size:=HB9.out.size
      clear hbq HPS2 HBO2 hd1 hd2 HO HBA HB6 HBW6
      go_wp2_with (at_builtin;refine wpList_append_own _ rfl _ _ 29 rfl w2.heap.size 9 i0 _ 1 16 underlying29 hi0' hz0 hz1 hz2 rfl (by decide) (.slice oa all.length oc) all.length _ (by rfl) HO9.out ⟨w6.heap.size,0,none⟩ 1 1 [.string p] (by rfl) (by rfl) (World.news_of_block HN9.out) (by simp [Value.oneCell']) (by unfold maxLen;omega) (by omega) hsz9 ?_;intro v' wC hown' hgrow _;have HOW:=zh hown';have HGR:=zh hgrow;clear hown' hgrow;obtain⟨g9,gc9,rfl⟩:=ownsRow_succ HOW.out)
      all_goals
       have HB10:=zh (HB9.out.grown HGR.out hsz9 (fun b hb=>(z0g HO9.out b hb).1))
       have HOL:Hid (wC.ownsRow w2.heap.size 9 1 (.slice (some ⟨g9,0,none⟩) (all.length+1) gc9) (all++[p]).length (strsC (all++[p]))):=zh (by rw [z1v,List.length_append];exact HOW.out)
       refine⟨zh ⟨k+1,all++[p],hltk,by go_num,HOL.out,HC3.out,HB10.out⟩,?_⟩
       simp [intOf];omega
end Go.Proofs.YtapbhoodgnmnkaaGreatDoor
