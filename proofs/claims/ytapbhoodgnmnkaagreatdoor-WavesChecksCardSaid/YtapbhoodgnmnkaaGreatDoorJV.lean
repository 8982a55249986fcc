/- Laws and contracts. -/
import Derived.Test.YtapbhoodgnmnkaaGreatDoorJU
set_option linter.unusedVariables false
set_option linter.unusedSimpArgs false
set_option maxRecDepth 100000
set_option maxHeartbeats 32000000
namespace Go.Proofs.YtapbhoodgnmnkaaGreatDoor
open Go.Proofs.Tryz Go Go.RowKit
theorem zm4 (s:ByteArray):0≤majN s:=by
 unfold majN
 split
 ·unfold verN
  split
  ·rename_i h
   unfold verOk okR at h
   simp only [Bool.and_eq_true]at h
   have h2:=h.2.2.2.2
   refine(zdz _ (fun b hb=>?_)).1
   unfold allZ at h2
   have h3:=List.all_eq_true.1 h2 b (by unfold tailS;simpa using hb)
   exact h3
  ·decide
 ·decide
theorem zes {s:ByteArray}(h:(lineV s).2.2=0):0≤majV s:=by
 unfold majV
 rw [if_neg (fun e=>e h)]
 unfold lineV at h ⊢
 split at h
 ·rename_i hp
  rw [if_pos hp]
  exact zm4 s
 ·exact absurd h (by decide)
theorem zm3 {s:ByteArray}(h:(lineV s).2.2≠0):majV s=-1:=by unfold majV;rw [if_pos h]
theorem z7w (v:Value)(l:List ReqL)(w:World)(hl:l.length≤1000000)(hq:∀ q∈l,q.1.size≤1000000∧q.2.length≤1000000)(hR:ReqsOf w.heap.size v l w) :
  Calls prog 106 #[v] w fun e w'=>e=.returned (.int .i64 (checkReqs l))∧Below w.heap.size w w':=by
 obtain⟨ao,cap,rfl,hR⟩:=hR
 have HR:=zh hR
 have HQ:=zh hq
 clear hR hq
 obtain⟨E,hE⟩:∃ E,checkReqs l=E:=⟨_,rfl⟩
 have HE:=zh hE
 rw [hE]
 clear hE
 by_cases h16:16<l.length
 ·have h16a:(16:Int)<(l.length:Int):=by omega
  have h16b:decide ((16:Int)<(l.length:Int))=true:=decide_eq_true h16a
  have HX:=zh (show E=7 by rw [← HE.out];unfold checkReqs;rw [if_pos h16])
  go_enter func106,ntmps106
  go_wp2_with fail
  go_ret
  exact⟨by rw [HX.out];rfl,Below.refl _ _⟩
 have h16a:¬ ((16:Int)<(l.length:Int)):=by omega
 have h16b:decide ((16:Int)<(l.length:Int))=false:=decide_eq_false h16a
 have HF:=zh (show E=firstE l.length fun k=>reqE (l.getD k default) (beforeQ l k) by rw [← HE.out];unfold checkReqs;rw [if_neg h16])
 go_enter func106,ntmps106
 go_wp2_with fail
 go_loopw [3] (fun p wr=>∃ k:Nat,k≤l.length∧p=.int .i64 k∧Hid (∀ j,j<k→reqE (l.getD j default) (beforeQ l j)=0)∧Hid (Below w.heap.size w wr)) (fun p _=>l.length - (intOf p).toNat)
 case atStart=>exact⟨0,Nat.zero_le _,rfl,zh (fun j hj=>absurd hj (Nat.not_lt_zero _)),zh (Below.refl _ _)⟩
 case round =>
  obtain⟨k,hk,rfl,HZ,HB⟩:=hrel
  by_cases hlt:k<l.length
  case neg =>
   have hk2:k=l.length:=by omega
   subst hk2
   have HX:=zh (show E=0 by rw [HF.out];exact z2y fun j hj=>HZ.out j hj)
   go_wp2_with fail
   go_ret
   exact⟨by rw [HX.out];rfl,HB.out⟩
  case pos =>
   have hlt2:(k:Int)<(l.length:Int):=by omega
   have hk0:(0:Int)≤(k:Int):=by omega
   obtain⟨b,off,r,rfl,hbl,hc0,hc1,hsp⟩:=HR.out k l[k] (by simp [hlt])
   have hgd:l.getD k default=l[k]:=by rw [zg,ze hlt];rfl
   have hd0:=(HB.out.cell (p:=⟨b,off+k*2,none⟩) hbl).trans hc0
   obtain⟨q1,q2⟩:=HQ.out l[k] (List.getElem_mem hlt)
   obtain⟨⟨p,s⟩,hps⟩:∃ z,l[k]=z:=⟨_,rfl⟩
   rw [hps]at hgd hc0 hd0 q1 q2 hsp
   have HGD:=zh hgd
   have HC0:=zh hc0
   have HC1:=zh hc1
   have HSP:=zh hsp
   simp only at hd0 q1 q2
   clear hgd hc0 hc1 hps
   obtain⟨sa,sc,hr,_⟩:=hsp
   simp only at hr
   subst hr
   have hbw:b<wr.heap.size:=Nat.lt_of_lt_of_le hbl HB.out.size
   have HM:=zh (z5v p wr q1)
   have HFK:=zh (show reqE (p,s) (beforeQ l k)≠0→E=reqE (p,s) (beforeQ l k)from fun h=>by
    have e1:reqE (l.getD k default) (beforeQ l k)=reqE (p,s) (beforeQ l k):=by rw [HGD.out]
    rw [HF.out,z18 hlt (fun j hj=>HZ.out j hj) (by rw [e1];exact h),e1])
   have HZK:=zh (show reqE (p,s) (beforeQ l k)=0→∀ j,j<k+1→reqE (l.getD j default) (beforeQ l j)=0 from fun h j hj=>by
    by_cases e:j=k
    ·rw [e,HGD.out];exact h
    ·exact HZ.out j (by omega))
   by_cases hle:(lineV p).2.2=0
   case neg =>
    rw [zm3 hle]at HM
    have HE4:=zh (show reqE (p,s) (beforeQ l k)=4 by unfold reqE;rw [if_pos hle])
    have HX:=zh (show E=4 by rw [HFK.out (by rw [HE4.out];decide),HE4.out])
    go_wp2_with fail
    refine HM.out.mono ?_
    rintro e w1 ⟨rfl,hb1⟩
    have HB1:=zj HB hb1
    clear hb1
    go_wp2_with fail
    go_ret
    exact⟨by rw [HX.out];rfl,HB1.out⟩
   have HLE:=zh hle
   have hmj:=zes hle
   generalize majV p=mj at *
   have hmj2:decide (mj<0)=false:=decide_eq_false (by omega)
   have hmj3:¬ mj<0:=by omega
   clear hle
   go_wp2_with fail
   refine HM.out.mono ?_
   rintro e w1 ⟨rfl,hb1⟩
   have HB1:=zj HB hb1
   have hs1:=hb1.size
   clear hb1 hd0 HM
   have hd0:=(HB1.out.cell (p:=⟨b,off+k*2,none⟩) hbl).trans HC0.out
   have hd1:=(HB1.out.cell (p:=⟨b,off+k*2+1,none⟩) hbl).trans HC1.out
   try simp only at hd0 hd1
   have hbw1:b<w1.heap.size:=by omega
   have HRC:=zh (fun(wx:World) (h:Below w1.heap.size w1 wx)=>z7u (.slice sa s.length sc) s wx q2 (((HSP.out.below HB1.out (zq _)).mono HB1.out.size).below h (zq _) |>.mono h.size))
   have HSM:=zh (fun(wx:World) (v':Value) (h:Below w1.heap.size w1 wx) (h2:SpansOf wx.heap.size v' (canon s) wx)=>zh0 (.slice sa s.length sc) v' s (canon s) wx (by omega) (Nat.le_trans (zap _) (by omega)) ((((HSP.out.below HB1.out (zq _)).mono HB1.out.size).below h (zq _)).mono h.size) h2)
   have HBC:Hid (Below w1.heap.size w1 w1):=zh (Below.refl _ _)
   have HSQ:Hid (∀ W',Below w1.heap.size w1 W'→HeldC ⟨b,off+k*2,none⟩ ⟨b,off+k*2+1,none⟩ (.string p) (.slice sa s.length sc) W'):=zh (fun W' hb=>⟨(hb.cell (p:=⟨b,off+k*2,none⟩) hbw1).trans hd0,(hb.cell (p:=⟨b,off+k*2+1,none⟩) hbw1).trans hd1⟩)
   go_upto_region 8 with fail
   by_cases h2:s=[]
   ·subst h2
    have HE1:=zh (show reqE (p,[]) (beforeQ l k)=1 by unfold reqE;rw [if_neg (by rw [HLE.out];simp),if_pos (.inl rfl)])
    have HX:=zh (show E=1 by rw [HFK.out (by rw [HE1.out];decide),HE1.out])
    simp only [List.length_nil]at *
    refine wp_region_noPanic ?_
    refine wp_region_held_drew (S:=HeldC ⟨b,off+k*2,none⟩ ⟨b,off+k*2+1,none⟩ (.string p) (.slice sa 0 sc)) (by kernel_rfl) ⟨hd0,hd1⟩ (fun hS0=>?_)
    refine zt 0 _ rfl ?_;simp only [zl1];refine zt 1 _ rfl ?_;simp only [zl1];refine zt 2 _ rfl ?_;simp only [zl1];refine zt 3 _ rfl ?_;simp only [zl1];refine zt 4 _ rfl ?_;simp only [zl1];refine zt 5 _ rfl ?_;simp only [zl1];refine zt 6 _ rfl ?_;simp only [zl1];refine zt 7 _ rfl ?_;simp only [zl1];refine zu 8 rfl ?_;simp only [zl1];refine zu 9 rfl ?_;simp only [zl1];refine zu 10 rfl ?_;simp only [zl1]
    refine zu 11 rfl ?_;simp only [zl1];refine zu 12 rfl ?_;simp only [zl1];refine zu 13 rfl ?_;simp only [zl1];refine zu 14 rfl ?_;simp only [zl1];refine zu 15 rfl ?_;simp only [zl1];refine zu 16 rfl ?_;simp only [zl1];refine zu 17 rfl ?_;simp only [zl1];refine zu 18 rfl ?_;simp only [zl1];refine zu 19 rfl ?_;simp only [zl1];refine zu 20 rfl ?_;simp only [zl1];refine zt 21 _ rfl ?_;simp only [zl1]
    refine wpAnyH_done (by kernel_rfl) ?_ _
    refine NoPanic.normal ?_
    go_wp2_with fail
    go_ret
    exact⟨by rw [HX.out];rfl,HB1.out.drew⟩
   ·have hl0:¬ s.length=0:=fun e=>h2 (List.length_eq_zero_iff.1 e)
    have hl1:¬ ((s.length:Int)=0):=by omega
    have hl4:((s.length:Int) == 0)=false:=beq_eq_false_iff_ne.2 (by omega)
    refine wp_region_noPanic ?_
    refine wp_region_held_drew (S:=HeldC ⟨b,off+k*2,none⟩ ⟨b,off+k*2+1,none⟩ (.string p) (.slice sa s.length sc)) (by kernel_rfl) ⟨hd0,hd1⟩ (fun hS0=>?_)
    refine zt 0 _ rfl ?_;simp only [zl1];refine zt 1 _ rfl ?_;simp only [zl1];refine zt 2 _ rfl ?_;simp only [zl1];refine zt 3 _ rfl ?_;simp only [zl1];refine zt 4 _ rfl ?_;simp only [zl1];refine zt 5 _ rfl ?_;simp only [zl1];refine zt 6 _ rfl ?_;simp only [zl1];refine zt 7 _ rfl ?_;simp only [zl1];refine zt 8 _ rfl ?_;simp only [zl1];refine zt 9 _ rfl ?_;simp only [zl1];refine zt 10 _ rfl ?_;simp only [zl1]
    refine zt 11 _ rfl ?_;simp only [zl1];refine zt 12 _ rfl ?_;simp only [zl1];refine zt 13 _ rfl ?_;simp only [zl1];refine zt 14 _ rfl ?_;simp only [zl1];refine zt 15 _ rfl ?_;simp only [zl1];refine zt 16 _ rfl ?_;simp only [zl1];refine zt 17 _ rfl ?_;simp only [zl1]
    refine zr 18 rfl fun K hK=>?_
    go_simp
    refine(HRC.out _ HBC.out.drew).mono ?_
    rintro e wq ⟨v',rfl,hv',hbc⟩
    have HV:=zh hv'
    replace HBC:=zh (HBC.out.drew.trans (hbc.mono HBC.out.size))
    refine hK.out _ _ (HSQ.out _ HBC.out) (fun _=>?_)
    clear hK K hS0 hbc hv'
    (try simp only [zl1])
    refine zr 19 rfl fun K hK=>?_
    go_simp
    refine(HSM.out _ _ HBC.out HV.out).mono ?_
    rintro e w2 ⟨rfl,hbc⟩
    replace HBC:=zj HBC hbc
    refine hK.out _ _ (HSQ.out _ HBC.out) (fun hS2=>?_)
    clear hK K hbc
    (try simp only [zl1])
    refine zt 20 _ rfl ?_;simp only [zl1];refine zt 21 _ rfl ?_;simp only [zl1]
    refine wpAnyH_done (by kernel_rfl) ?_ _
    refine NoPanic.normal ?_
    have HB2:=zh (HB1.out.trans (HBC.out.mono HB1.out.size))
    obtain⟨bq,hbq⟩:∃ bq,decide (s=canon s)=bq:=⟨_,rfl⟩
    have HBQ:=zh hbq
    rw [hbq]
    clear hbq
    clear hd0 hd1 hl0 hl1 hl4 hbw hbw1 hS2
    cases bq with
    | false =>
     have HE1:=zh (show reqE (p,s) (beforeQ l k)=1 by unfold reqE;rw [if_neg (by rw [HLE.out];simp),if_pos (.inr (of_decide_eq_false HBQ.out))])
     have HX:=zh (show E=1 by rw [HFK.out (by rw [HE1.out];decide),HE1.out])
     go_wp2_with fail
     go_ret
     exact⟨by rw [HX.out];rfl,HB2.out⟩
    | true =>
     have HE0:=zh (show reqE (p,s) (beforeQ l k)=(match beforeQ l k with | none=>0 | some b=>if ltB b p=true then 0 else 1) by unfold reqE;rw [if_neg (by rw [HLE.out];simp),if_neg (fun h=>h.elim h2 (fun h=>h (of_decide_eq_true HBQ.out)))];cases beforeQ l k<;>rfl)
     cases k with
     | zero =>
      have HZ2:=zh (HZK.out (by rw [HE0.out];rfl))
      go_wp2_with fail
      go_quiet (fail)
      have HBQ2:=zh (z00 HB2.out nq)
      go_wp2_with fail
      all_goals
       refine⟨⟨0+1,by omega,by go_num,HZ2,HBQ2⟩,?_⟩
       simp [intOf];omega
     | succ k =>
      have hgk:k<l.length:=by omega
      obtain⟨b2,off2,r2,e2,_,gc0,_⟩:=HR.out k l[k] (by simp [hgk])
      cases e2
      have hgd2:l.getD k default=l[k]:=by rw [zg,ze hgk];rfl
      obtain⟨pp,hpp⟩:∃ z,l[k].1=z:=⟨_,rfl⟩
      rw [hpp]at gc0
      have HBE:=zh (show beforeQ l (k+1)=some pp by rw [z5o,hgd2,hpp])
      clear hgd2 hpp
      have f0:=(HB2.out.cell (p:=⟨b,off+k*2,none⟩) hbl).trans gc0
      have f1:=(HB2.out.cell (p:=⟨b,off+(k+1)*2,none⟩) hbl).trans HC0.out
      have hk1:(0:Int)<((k+1:Nat):Int):=by omega
      have hk2:decide ((0:Int)<((k+1:Nat):Int))=true:=decide_eq_true hk1
      have hsub:wrap64 (((k+1:Nat):Int) - 1)=(k:Int):=by rw [show((k+1:Nat):Int) - 1=(k:Int) by omega];unfold wrap64;omega
      have hkl:(k:Int)<(l.length:Int):=by omega
      have hkz:(0:Int)≤(k:Int):=by omega
      clear gc0
      go_wp2_with fail
      go_quiet (fail)
      have HBQ2:=zh (z00 HB2.out nq)
      generalize w2.drewN nq=wx at *
      clear f0 f1 hk1 hk2 hsub hkl hkz
      cases hc:ltB pp p with
      | false =>
       have HE1:=zh (show reqE (p,s) (beforeQ l (k+1))=1 by rw [HE0.out,HBE.out];simp only;rw [hc,if_neg (by decide)])
       have HX:=zh (show E=1 by rw [HFK.out (by rw [HE1.out];decide),HE1.out])
       have hc3:=z46 p pp
       rw [hc]at hc3
       have hc2:Op.bytesLess pp.toList p.toList=false:=hc
       first | rw [hc3] | rw [hc2]
       try simp only [Bool.not_false,Bool.not_true]
       clear hc hc2 hc3
       go_wp2_with fail
       go_ret
       exact⟨by rw [HX.out];rfl,HBQ2.out⟩
      | true =>
       have HZ2:=zh (HZK.out (by rw [HE0.out,HBE.out];simp only;rw [hc,if_pos rfl]))
       have hc3:=z46 p pp
       rw [hc]at hc3
       have hc2:Op.bytesLess pp.toList p.toList=true:=hc
       first | rw [hc3] | rw [hc2]
       try simp only [Bool.not_false,Bool.not_true]
       clear hc hc2 hc3
       go_wp2_with fail
       all_goals
        refine⟨⟨k+1+1,by omega,by go_num,HZ2,HBQ2⟩,?_⟩
        simp [intOf];omega
theorem zcc (x:RelL)(r:Value)(w:World)(hp:x.path.size≤1000000)(hl:x.reqs.length≤1000000)(hq:∀ q∈x.reqs,q.1.size≤1000000∧q.2.length≤1000000)(hR:ReqsOf w.heap.size r x.reqs w) :
  Calls prog 71 #[.agg (relC x r)] w fun e w'=>e=.returned (.int .i64 (relE x))∧Below w.heap.size w w':=by
 obtain⟨E,hE⟩:∃ E,relE x=E:=⟨_,rfl⟩
 have HE:=zh hE
 rw [hE]
 clear hE
 have HB0:Hid (Below w.heap.size w (w.alloc (.cells (relC x r) 82))):=zh (belQ _ _)
 have HG0:Hid (BoxR (w.alloc (.cells (relC x r) 82)) w.heap.size x r):=zh (BoxR.made w x r)
 have HL:=zh (z5v x.path (w.alloc (.cells (relC x r) 82)) hp)
 have HCR:=zh (fun W (hb:Below w.heap.size w W)=>z7w r x.reqs W hl hq ((hR.below hb (zq _)).mono hb.size))
 obtain⟨ra,rc,hr⟩:∃ ra rc,r=.slice ra x.reqs.length rc:=by obtain⟨a,c,e,_⟩:=hR;exact⟨a,c,e⟩
 clear hp hl hq hR
 obtain⟨p,⟨v1,v2,v3⟩,rq,sa,si,sc,yk⟩:=x
 simp only [relC]at HL HCR hr HB0 HG0 ⊢
 have hmv:majV p=(if (lineV p).2.2≠0 then -1 else(lineV p).2.1):=rfl
 have hmp:=@zes p
 obtain⟨⟨ln,lm,le⟩,hln⟩:∃ z,lineV p=z:=⟨_,rfl⟩
 rw [hln]at hmv hmp
 simp only at hmv hmp
 generalize majV p=mj at *
 have HMV:=zh (And.intro hmv hmp)
 clear hmv hmp
 obtain⟨cr,hcr⟩:∃ z,checkReqs rq=z:=⟨_,rfl⟩
 rw [hcr]at HCR
 have HV:=zh (fun W=>z8v v1 v2 v3 W)
 obtain⟨vb,hvb⟩:∃ z,validB v1 v2 v3=z:=⟨_,rfl⟩
 rw [hvb]at HV
 obtain⟨da,hda⟩:∃ z,digB sa=z:=⟨_,rfl⟩
 obtain⟨di,hdi⟩:∃ z,digB si=z:=⟨_,rfl⟩
 obtain⟨dc,hdc⟩:∃ z,digB sc=z:=⟨_,rfl⟩
 have hX:E=(if le≠0 then 4 else if (vb&&decide (v1=lm))=false then 2 else if cr≠0 then cr else if (da&&(di&&dc))=true then 0 else 1):=by
  rw [← HE.out,← hvb,← hcr,← hda,← hdi,← hdc];unfold relE;simp only [hln]
 have F1:=zh (show le≠0→E=4 from fun h=>by rw [hX,if_pos h])
 have F2:=zh (show le=0→vb=false∨v1≠lm→E=2 from fun h h2=>by rw [hX,if_neg (by simp [h]),if_pos (by rcases h2 with h2 | h2<;>simp [h2])])
 have F3:=zh (show le=0→vb=true→v1=lm→cr≠0→E=cr from fun h h2 h3 h4=>by rw [hX,if_neg (by simp [h]),if_neg (by simp [h2,h3]),if_pos h4])
 have F4:=zh (show le=0→vb=true→v1=lm→cr=0→E=(if (da&&(di&&dc))=true then 0 else 1)from fun h h2 h3 h4=>by rw [hX,if_neg (by simp [h]),if_neg (by simp [h2,h3]),if_neg (by simp [h4])])
 have F5:=zh (show le=0→vb=true→v1=lm→cr=0→(da=false∨di=false∨dc=false)→E=1 from fun h h2 h3 h4 h5=>by rw [F4.out h h2 h3 h4,if_neg (by rcases h5 with h5 | h5 | h5<;>simp [h5])])
 have F6:=zh (show le=0→vb=true→v1=lm→cr=0→da=true→di=true→dc=true→E=0 from fun h h2 h3 h4 h5 h6 h7=>by rw [F4.out h h2 h3 h4,if_pos (by simp [h5,h6,h7])])
 clear hX F4
 have HD:=zh (And.intro hda (And.intro hdi hdc))
 clear hln hcr hvb hda hdi hdc HE
 subst hr
 go_enter func71,ntmps71
 go_wp2_with fail
 refine HL.out.mono ?_
 rintro e w1 ⟨rfl,hb1⟩
 have HB1:=zj HB0 hb1
 have HG1:=zh (HG0.out.on hb1)
 obtain⟨g0,g1,g2,g3,g4,g5,g6,g7,_⟩:=HG1.out.cells
 simp only at g0 g1 g2 g3 g4 g5 g6 g7
 clear hb1 HL HB0 HG0
 by_cases h1:le=0
 case neg =>
  have hm1:mj=-1:=by rw [HMV.out.1,if_pos h1]
  subst hm1
  have HY:=zh (F1.out h1)
  go_wp2_with fail
  go_ret
  exact⟨by rw [HY.out];rfl,HB1.out⟩
 have hm2:mj=lm:=by rw [HMV.out.1,if_neg (fun h=>h h1)]
 have hm3:0≤mj:=HMV.out.2 h1
 subst h1
 subst hm2
 have hm4:decide (mj<0)=false:=decide_eq_false (by omega)
 have hm5:¬ mj<0:=by omega
 clear HMV
 go_wp2_with fail
 refine(HV.out _).mono ?_
 rintro e w2 ⟨rfl,hw2⟩
 have hb2:Below w1.heap.size w1 w2:=by rw [hw2];exact(by repeat (first | exact Below.refl _ _ | refine Below.drew ?_ | refine Below.alloc ?_ (by simp<;>omega) _ | refine Below.setCell ?_ (by simp<;>omega) _))
 have HB2:=zj HB1 hb2
 have HG2:=zh (HG1.out.on hb2)
 clear hw2 hb2 g0 g1 g2 g3 g4 g5 g6 g7 HV HB1 HG1
 obtain⟨g0,g1,g2,g3,g4,g5,g6,g7,_⟩:=HG2.out.cells
 simp only at g0 g1 g2 g3 g4 g5 g6 g7
 cases vb with
 | false =>
  have HY:=zh (F2.out (by trivial) (.inl (by trivial)))
  go_wp2_with fail
  go_ret
  exact⟨by rw [HY.out];rfl,HB2.out⟩
 | true =>
 by_cases h2:v1=mj
 case neg =>
  have h2b:(v1 != mj)=true:=by simpa using h2
  have h2c:(v1 == mj)=false:=by simpa using h2
  have HY:=zh (F2.out (by trivial) (.inr h2))
  go_wp2_with fail
  go_ret
  exact⟨by rw [HY.out];rfl,HB2.out⟩
 subst h2
 go_wp2_with fail
 refine(HCR.out _ HB2.out).mono ?_
 rintro e w3 ⟨rfl,hb3⟩
 have HB3:=zj HB2 hb3
 have HG3:=zh (HG2.out.on hb3)
 clear hb3 g0 g1 g2 g3 g4 g5 g6 g7 HB2 HG2
 obtain⟨g0,g1,g2,g3,g4,g5,g6,g7,_⟩:=HG3.out.cells
 simp only at g0 g1 g2 g3 g4 g5 g6 g7
 by_cases h3:cr=0
 case neg =>
  have h3b:(cr != 0)=true:=by simpa using h3
  have HY:=zh (F3.out (by trivial) (by trivial) (by trivial) h3)
  go_wp2_with fail
  go_ret
  exact⟨by rw [HY.out];rfl,HB3.out⟩
 subst h3
 have HDA:=zh (fun W=>z4a sa W)
 have HDI:=zh (fun W=>z4a si W)
 have HDC:=zh (fun W=>z4a sc W)
 rw [HD.out.1]at HDA
 rw [HD.out.2.1]at HDI
 rw [HD.out.2.2]at HDC
 cases da with
 | false =>
  have HY:=zh (F5.out (by trivial) (by trivial) (by trivial) (by trivial) (by simp))
  go_wp2_with (go_at_call 107;first | (with_reducible refine(HDA.out _).mono ?_;rintro e wd ⟨rfl,rfl⟩) | (with_reducible refine(HDI.out _).mono ?_;rintro e wd ⟨rfl,rfl⟩) | (with_reducible refine(HDC.out _).mono ?_;rintro e wd ⟨rfl,rfl⟩))
  go_ret
  exact⟨by rw [HY.out];rfl,HB3.out⟩
 | true =>
 cases di with
 | false =>
  have HY:=zh (F5.out (by trivial) (by trivial) (by trivial) (by trivial) (by simp))
  go_wp2_with (go_at_call 107;first | (with_reducible refine(HDA.out _).mono ?_;rintro e wd ⟨rfl,rfl⟩) | (with_reducible refine(HDI.out _).mono ?_;rintro e wd ⟨rfl,rfl⟩) | (with_reducible refine(HDC.out _).mono ?_;rintro e wd ⟨rfl,rfl⟩))
  go_ret
  exact⟨by rw [HY.out];rfl,HB3.out⟩
 | true =>
 cases dc with
 | false =>
  have HY:=zh (F5.out (by trivial) (by trivial) (by trivial) (by trivial) (by simp))
  go_wp2_with (go_at_call 107;first | (with_reducible refine(HDA.out _).mono ?_;rintro e wd ⟨rfl,rfl⟩) | (with_reducible refine(HDI.out _).mono ?_;rintro e wd ⟨rfl,rfl⟩) | (with_reducible refine(HDC.out _).mono ?_;rintro e wd ⟨rfl,rfl⟩))
  go_ret
  exact⟨by rw [HY.out];rfl,HB3.out⟩
 | true =>
  have HY:=zh (F6.out (by trivial) (by trivial) (by trivial) (by trivial) (by trivial) (by trivial) (by trivial))
  go_wp2_with (go_at_call 107;first | (with_reducible refine(HDA.out _).mono ?_;rintro e wd ⟨rfl,rfl⟩) | (with_reducible refine(HDI.out _).mono ?_;rintro e wd ⟨rfl,rfl⟩) | (with_reducible refine(HDC.out _).mono ?_;rintro e wd ⟨rfl,rfl⟩))
  go_ret
  exact⟨by rw [HY.out];rfl,HB3.out⟩
theorem zaw (a b:ByteArray):cmpS a b=0 ↔ a=b:=by
 unfold cmpS
 cases h1:ltB a b with
 | true=>rw [if_pos rfl];exact⟨fun h=>absurd h (by decide),fun h=>by rw [h,z0c]at h1;cases h1⟩
 | false =>
  rw [if_neg (by decide)]
  cases h2:ltB b a with
  | true=>rw [if_pos rfl];exact⟨fun h=>absurd h (by decide),fun h=>by rw [h,z0c]at h2;cases h2⟩
  | false=>rw [if_neg (by decide)];exact⟨fun _=>z2i h1 h2,fun _=>rfl⟩
theorem z1y (a b:Int):cmpI a b=0 ↔ a=b:=by
 unfold cmpI
 split
 ·exact⟨fun h=>absurd h (by decide),fun h=>by omega⟩
 ·split
  ·exact⟨fun h=>absurd h (by decide),fun h=>by omega⟩
  ·exact⟨fun _=>by omega,fun _=>rfl⟩
theorem zhf (a b c x y z:Int):cmpV a b c x y z=0 ↔ a=x∧b=y∧c=z:=by
 unfold cmpV
 split
 ·rename_i h;rw [ne_eq,z1y]at h;rw [z1y];exact⟨fun e=>absurd e h,fun e=>e.1⟩
 ·rename_i h
  have h:=(z1y _ _).1 (Classical.not_not.1 h)
  split
  ·rename_i h2;rw [ne_eq,z1y]at h2;rw [z1y];exact⟨fun e=>absurd e h2,fun e=>e.2.1⟩
  ·rename_i h2
   have h2:=(z1y _ _).1 (Classical.not_not.1 h2)
   rw [z1y]
   exact⟨fun e=>⟨h,h2,e⟩,fun e=>e.2.2⟩
theorem zav (a b:RelL):cmpR a b=0 ↔ keyL a=keyL b:=by
 unfold cmpR
 split
 ·rename_i h
  constructor
  ·exact fun e=>absurd e h
  ·intro e
   have:a.path=b.path:=congrArg (·.1) e
   exact absurd ((zaw _ _).2 this) h
 ·rename_i h
  have h:=(zaw _ _).1 (Classical.not_not.1 h)
  rw [zhf]
  constructor
  ·rintro⟨h1,h2,h3⟩
   exact Prod.ext h (Prod.ext h1 (Prod.ext h2 h3))
  ·intro e
   have h1:a.ver=b.ver:=congrArg (·.2) e
   rw [h1]
   exact⟨rfl,rfl,rfl⟩
theorem z5s (v iv:Value)(X:List RelL)(w:World)(hX:X.length≤1000000)(hq:∀ x∈X,RelBd x)(hR:RelsOf w.heap.size v X w) :
  Calls prog 38 #[.agg #[v,iv]] w fun e w'=>e=.returned (.int .i64 (checkX X))∧Below w.heap.size w w':=by
 obtain⟨E,hE⟩:∃ E,checkX X=E:=⟨_,rfl⟩
 have HE:=zh hE
 rw [hE]
 clear hE
 obtain⟨ao,cap,rv,rfl,hrv⟩:=hR.rv
 have HR:=zh hrv
 have HQ:=zh hq
 clear hR hq hrv
 have HB0:Hid (Below w.heap.size w (w.alloc (.cells #[.slice ao X.length cap,iv] 25))):=zh (belQ _ _)
 by_cases h256:256<X.length
 ·have h256a:(256:Int)<(X.length:Int):=by omega
  have h256b:decide ((256:Int)<(X.length:Int))=true:=decide_eq_true h256a
  have HX:=zh (show E=7 by rw [← HE.out];unfold checkX;rw [if_pos h256])
  go_enter func38,ntmps38
  go_wp2_with fail
  go_ret
  exact⟨by rw [HX.out];rfl,HB0.out⟩
 have h256a:¬ ((256:Int)<(X.length:Int)):=by omega
 have h256b:decide ((256:Int)<(X.length:Int))=false:=decide_eq_false h256a
 have HF:=zh (show E=firstE X.length (idxErr X) by rw [← HE.out];unfold checkX;rw [if_neg h256])
 clear h256
 go_enter func38,ntmps38
 go_wp2_with fail
 go_loopw [4] (fun p wr=>Hid (∃ k:Nat,k≤X.length∧p=.int .i64 k∧(∀ j,j<k→idxErr X j=0)∧Below w.heap.size w wr)) (fun p _=>X.length - (intOf p).toNat)
 case atStart=>exact zh ⟨0,Nat.zero_le _,rfl,fun j hj=>absurd hj (Nat.not_lt_zero _),HB0.out⟩
 case round =>
  obtain⟨k,hk,rfl,hz,hb⟩:=hrel.out
  have HZ:=zh hz
  have HB:=zh hb
  clear hrel hz hb
  by_cases hlt:k<X.length
  case neg =>
   have hk2:k=X.length:=by omega
   subst hk2
   have HX:=zh (show E=0 by rw [HF.out];exact z2y fun j hj=>HZ.out j hj)
   go_wp2_with fail
   go_ret
   exact⟨by rw [HX.out];rfl,HB.out⟩
  case pos =>
   obtain⟨b,off,rfl,hbl,hcs,hrq⟩:=HR.out k X[k] (by simp [hlt])
   have hgd:X.getD k default=X[k]:=by rw [zg,ze hlt];rfl
   obtain⟨q1,q2,q3⟩:=HQ.out X[k] (List.getElem_mem hlt)
   obtain⟨x,hx⟩:∃ x,X[k]=x:=⟨_,rfl⟩
   rw [hx]at hgd hcs hrq q1 q2 q3
   have HGD:=zh hgd
   obtain⟨r,hr⟩:∃ r,rv k=r:=⟨_,rfl⟩
   rw [hr]at hcs hrq
   clear hx hgd hr
   have HCS:=zh hcs
   have HRQ:=zh hrq
   obtain⟨ra,rc,rfl,_⟩:=hrq
   have hbw:b<wr.heap.size:=Nat.lt_of_lt_of_le hbl HB.out.size
   obtain⟨d0,d1,d2,d3,d4,d5,d6,d7,d8⟩:=hcs.below HB.out hbl
   have HC:=zh (zcc x (.slice ra x.reqs.length rc) wr q1 q2 q3 ((HRQ.out.below HB.out (zq _)).mono HB.out.size))
   simp only [relC]at HC
   clear hcs q1 q2 q3
   go_wp2_with fail
   refine HC.out.mono ?_
   rintro e w3 ⟨rfl,hb3⟩
   have HB3:=zj HB hb3
   have hs3:=HB3.out.size
   clear hb3 d0 d1 d2 d3 d4 d5 d6 d7 d8 HC
   by_cases hz:relE x=0
   case neg =>
    have HX:=zh (show E=relE x by
     have e1:idxErr X k=relE x:=by unfold idxErr;rw [HGD.out,if_pos hz]
     rw [HF.out,z18 hlt (fun j hj=>HZ.out j hj) (by rw [e1];exact hz),e1])
    generalize relE x=er at *
    have hz2:(er != 0)=true:=by simpa using hz
    go_wp2_with fail
    go_ret
    exact⟨by rw [HX.out];rfl,HB3.out⟩
   have HZR:=zh hz
   rw [hz]
   clear hz
   cases k with
   | zero =>
    have HZ2:=zh (show ∀ j,j<0+1→idxErr X j=0 from fun j hj=>by
     obtain rfl:j=0:=by omega
     unfold idxErr
     rw [HGD.out,if_neg (by rw [HZR.out];simp),if_pos rfl])
    go_wp2_with fail
    go_quiet (fail)
    have HB4:=zh (z00 HB3.out nq)
    generalize w3.drewN nq=w4 at *
    go_wp2_with fail
    go_quiet (fail)
    have HB5:=zh (z00 HB4.out nq)
    go_wp2_with fail
    all_goals
     refine⟨zh ⟨0+1,by omega,by go_num,HZ2.out,HB5.out⟩,?_⟩
     simp [intOf];omega
   | succ k =>
    have hgk:k<X.length:=by omega
    obtain⟨b2,off2,e2,_,hcs2,hrq2⟩:=HR.out k X[k] (by simp [hgk])
    cases e2
    have hgd2:X.getD k default=X[k]:=by rw [zg,ze hgk];rfl
    obtain⟨y,hy⟩:∃ y,X[k]=y:=⟨_,rfl⟩
    rw [hy]at hcs2 hgd2 hrq2
    have HGD2:=zh hgd2
    obtain⟨r2,hr2⟩:∃ r,rv k=r:=⟨_,rfl⟩
    rw [hr2]at hcs2 hrq2
    clear hy hgd2 hr2
    obtain⟨ra2,rc2,rfl,_⟩:=hrq2
    have HSQ:Hid (∀ W',Below w3.heap.size w3 W'→CellsAt W' b (off+k*9) y (.slice ra2 y.reqs.length rc2)∧CellsAt W' b (off+(k+1)*9) x (.slice ra x.reqs.length rc)):=zh (fun W' hb=>⟨hcs2.below (HB3.out.trans (hb.mono hs3)) hbl,HCS.out.below (HB3.out.trans (hb.mono hs3)) hbl⟩)
    have HCM:=zh (fun W=>z7x y x (.slice ra2 y.reqs.length rc2) (.slice ra x.reqs.length rc) W)
    simp only [relC]at HCM
    obtain⟨cm,hcm⟩:∃ cm,cmpR y x=cm:=⟨_,rfl⟩
    rw [hcm]at HCM
    have HI:=zh (show idxErr X (k+1)=if cm=0 then 5 else if 0<cm then 1 else 0 by
     unfold idxErr
     rw [HGD.out,if_neg (by rw [HZR.out];simp),if_neg (by omega),show k+1 - 1=k from rfl,HGD2.out]
     unfold relE2
     rw [hcm]
     by_cases h:keyL y=keyL x
     ·rw [if_pos h,if_pos (by rw [← hcm];exact(zav _ _).2 h)]
     ·have hne:¬ cm=0:=by rw [← hcm];exact fun e=>h ((zav _ _).1 e)
      rw [if_neg h]
      simp [hne])
    clear hcs2 hcm
    have hk1:(0:Int)<((k+1:Nat):Int):=by omega
    have hk2:decide ((0:Int)<((k+1:Nat):Int))=true:=decide_eq_true hk1
    have hsub:wrap64 (((k+1:Nat):Int) - 1)=(k:Int):=by rw [show((k+1:Nat):Int) - 1=(k:Int) by omega];unfold wrap64;omega
    have hwk:IntKind.i64.wrap (k:Int)=(k:Int):=IntWalk.i64_in _ (by omega)
    have hwk1:IntKind.i64.wrap (((k+1:Nat):Int) - 1)=(k:Int):=by rw [show((k+1:Nat):Int) - 1=(k:Int) by omega];exact hwk
    have hkl:(k:Int)<(X.length:Int):=by omega
    have hkn:(k:Int)+1<(X.length:Int):=by omega
    have hkp:(0:Int)≤(k:Int)+1:=by omega
    have hkq:(0:Int)<(k:Int)+1:=by omega
    have hkz:(0:Int)≤(k:Int):=by omega
    have hkl1:((k+1:Nat):Int)<(X.length:Int):=by omega
    have hkz1:(0:Int)≤((k+1:Nat):Int):=by omega
    have HBR:Hid (Below w3.heap.size w3 w3):=zh (Below.refl _ _)
    go_upto_region 10 with fail
    refine wp_region_noPanic ?_
    refine wp_region_held_drew (S:=fun W'=>CellsAt W' b (off+k*9) y (.slice ra2 y.reqs.length rc2)∧CellsAt W' b (off+(k+1)*9) x (.slice ra x.reqs.length rc)) (by kernel_rfl) (HSQ.out w3.drew HBR.out.drew) (fun hS0=>?_)
    refine zt 0 _ rfl ?_;simp only [zl1];refine zt 1 _ rfl ?_;simp only [zl1];refine zt 2 _ rfl ?_;simp only [zl1];refine zt 3 _ rfl ?_;simp only [zl1];refine zt 4 _ rfl ?_;simp only [zl1];refine zt 5 _ rfl ?_;simp only [zl1];refine zt 6 _ rfl ?_;simp only [zl1];refine zt 7 _ rfl ?_;simp only [zl1];refine zt 8 _ rfl ?_;simp only [zl1];refine zt 9 _ rfl ?_;simp only [zl1];refine zt 10 _ rfl ?_;simp only [zl1]
    refine zt 11 _ rfl ?_;simp only [zl1]
    refine zr 12 rfl fun K hK=>?_
    go_simp
    refine(HCM.out _).mono ?_
    rintro e wq ⟨rfl,hbc⟩
    have HBC:=zh (HBR.out.drew.trans hbc)
    refine hK.out _ _ (HSQ.out _ HBC.out) (fun _=>?_)
    clear hK K hS0 hbc
    (try simp only [zl1])
    by_cases hc0:cm=0
    ·subst hc0
     have HX:=zh (show E=5 by
      have e1:idxErr X (k+1)=5:=by rw [HI.out,if_pos rfl]
      rw [HF.out,z18 hlt (fun j hj=>HZ.out j hj) (by rw [e1];decide),e1])
     refine zt 13 _ rfl ?_;simp only [zl1];refine zt 14 _ rfl ?_;simp only [zl1]
     refine wpAnyH_done (by kernel_rfl) ?_ _
     refine NoPanic.normal ?_
     go_wp2_with fail
     go_ret
     exact⟨by rw [HX.out];rfl,HB3.out.trans (HBC.out.mono hs3)⟩
    have hcb:(cm == 0)=false:=beq_eq_false_iff_ne.2 hc0
    refine zt 13 _ rfl ?_;simp only [zl1];refine zt 14 _ rfl ?_;simp only [zl1]
    refine wpAnyH_done (by kernel_rfl) ?_ _
    refine NoPanic.normal ?_
    go_wp2_with fail
    clear hcb
    refine wp_region_noPanic ?_
    refine wp_region_held_drew (S:=fun W'=>CellsAt W' b (off+k*9) y (.slice ra2 y.reqs.length rc2)∧CellsAt W' b (off+(k+1)*9) x (.slice ra x.reqs.length rc)) (by kernel_rfl) (HSQ.out wq.drew HBC.out.drew) (fun hS0=>?_)
    refine zt 0 _ rfl ?_;simp only [zl1];refine zt 1 _ rfl ?_;simp only [zl1];refine zt 2 _ rfl ?_;simp only [zl1];refine zt 3 _ rfl ?_;simp only [zl1];refine zt 4 _ rfl ?_;simp only [zl1];refine zt 5 _ rfl ?_;simp only [zl1];refine zt 6 _ rfl ?_;simp only [zl1];refine zt 7 _ rfl ?_;simp only [zl1];refine zt 8 _ rfl ?_;simp only [zl1];refine zt 9 _ rfl ?_;simp only [zl1];refine zt 10 _ rfl ?_;simp only [zl1]
    refine zt 11 _ rfl ?_;simp only [zl1]
    refine zr 12 rfl fun K hK=>?_
    go_simp
    refine(HCM.out _).mono ?_
    rintro e w9 ⟨rfl,hbc⟩
    have HBD:=zh (HBC.out.trans (Below.mono (show Below wq.heap.size wq _ from(Below.refl _ _).drew.trans hbc) HBC.out.size))
    refine hK.out _ _ (HSQ.out _ HBD.out) (fun _=>?_)
    clear hK K hS0 hbc
    (try simp only [zl1])
    have HBE:=zh (HB3.out.trans (HBD.out.mono hs3))
    by_cases hcp:0<cm
    ·have hcb:decide (0<cm)=true:=decide_eq_true hcp
     have HX:=zh (show E=1 by
      have e1:idxErr X (k+1)=1:=by rw [HI.out,if_neg hc0,if_pos hcp]
      rw [HF.out,z18 hlt (fun j hj=>HZ.out j hj) (by rw [e1];decide),e1])
     refine zt 13 _ rfl ?_;simp only [zl1];refine zt 14 _ rfl ?_;simp only [zl1]
     refine wpAnyH_done (by kernel_rfl) ?_ _
     refine NoPanic.normal ?_
     go_wp2_with fail
     go_ret
     exact⟨by rw [HX.out];rfl,HBE.out⟩
    have hcb:decide (0<cm)=false:=decide_eq_false hcp
    have HZ2:=zh (show ∀ j,j<k+1+1→idxErr X j=0 from fun j hj=>by
     by_cases e:j=k+1
     ·rw [e,HI.out,if_neg hc0,if_neg hcp]
     ·exact HZ.out j (by omega))
    refine zt 13 _ rfl ?_;simp only [zl1];refine zt 14 _ rfl ?_;simp only [zl1]
    refine wpAnyH_done (by kernel_rfl) ?_ _
    refine NoPanic.normal ?_
    go_wp2_with fail
    all_goals
     refine⟨zh ⟨k+1+1,by omega,by go_num,HZ2.out,HBE.out⟩,?_⟩
     simp [intOf];omega
theorem zc5 (sv:Value)(s:List SelL)(w:World)(hs:s.length≤1000000)(hS:SelsOf w.heap.size sv s w) :
  Calls prog 39 #[sv] w fun e w'=>∃ b:Bool,e=.returned (.bool b)∧(b=true ↔ incrS s)∧Below w.heap.size w w':=by
 obtain⟨so,sc,rfl⟩:=zo hS
 have HS:=zh hS
 clear hS
 go_enter func39,ntmps39
 go_wp2_with fail
 go_loopw [3] (fun p wr=>Hid (∃ k:Nat,1≤k∧p=.int .i64 k∧((k≤s.length∨k=1)∧incrK s k)∧Below w.heap.size w wr)) (fun p _=>s.length+1 - (intOf p).toNat)
 case atStart=>exact zh ⟨1,by omega,rfl,⟨.inr rfl,fun j hj=>by omega⟩,Below.refl _ _⟩
 case round =>
  obtain⟨k,hk1,rfl,hkk,hb⟩:=hrel.out
  have HK:=zh hkk
  have HB:=zh hb
  have hsl:=hb.size
  clear hrel hkk hb
  by_cases hlt:k<s.length
  case neg =>
   have HIN:=zh (show incrS s from z71.1 (fun j hj=>HK.out.2 j (by rcases HK.out.1 with h | h<;>omega)))
   go_wp2_with fail
   go_ret
   exact⟨true,rfl,⟨fun _=>HIN.out,fun _=>rfl⟩,HB.out⟩
  case pos =>
   obtain⟨b,off,rfl,hbl,d0,_⟩:=HS.out.at hlt
   obtain⟨b2,off2,e2,_,f0,_⟩:=HS.out.at (i:=k - 1) (by omega)
   cases e2
   have d0:=(HB.out.cell (p:=⟨b,off+k*4,none⟩) hbl).trans d0
   have f0:=(HB.out.cell (p:=⟨b,off+(k - 1)*4,none⟩) hbl).trans f0
   have hsub:wrap64 ((k:Int) - 1)=((k - 1:Nat):Int):=by rw [show((k:Int) - 1)=((k - 1:Nat):Int) by omega];unfold wrap64;omega
   have hl0:(0:Int)≤((k - 1:Nat):Int):=by omega
   have hl1:((k - 1:Nat):Int)<(s.length:Int):=by omega
   generalize hpa:(s.getD (k - 1) default).1=pa at *
   generalize hpb:(s.getD k default).1=pb at *
   have HPA:=zh hpa
   have HPB:=zh hpb
   clear hpa hpb
   go_wp2_with fail
   go_quiet (fail)
   have HBQ:=zh (z00 HB.out nq)
   generalize wr.drewN nq=wx at *
   clear d0 f0
   cases hc:ltB pa pb with
   | false =>
    have hc2:Op.bytesLess pa.toList pb.toList=false:=hc
    have hc3:=z46 pb pa
    rw [hc]at hc3
    have HN:=zh (show ¬ incrS s from fun h=>by
     have:=z71.2 h (k - 1) (by omega)
     rw [show k - 1+1=k by omega,HPA.out,HPB.out,hc]at this
     cases this)
    first | rw [hc3] | rw [hc2]
    try simp only [Bool.not_false,Bool.not_true]
    clear hc hc2 hc3
    go_wp2_with fail
    go_ret
    exact⟨false,rfl,⟨fun h=>(by cases h),fun h=>absurd h HN.out⟩,HBQ.out⟩
   | true =>
    have hc2:Op.bytesLess pa.toList pb.toList=true:=hc
    have hc3:=z46 pb pa
    rw [hc]at hc3
    have HK2:=zh (show(k+1≤s.length∨k+1=1)∧incrK s (k+1) from⟨.inl (by omega),z8g HK.out.2 (fun _=>by rw [HPA.out,HPB.out];exact hc)⟩)
    first | rw [hc3] | rw [hc2]
    try simp only [Bool.not_false,Bool.not_true]
    clear hc hc2 hc3
    go_wp2_with fail
    all_goals
     refine⟨zh ⟨k+1,by omega,by go_num,HK2.out,HBQ.out⟩,?_⟩
     simp [intOf];omega
theorem zmm (a b c x y z:Int)(w:World):(binOp .eql 51 (.agg #[.int .i64 a,.int .i64 b,.int .i64 c]) (.agg #[.int .i64 x,.int .i64 y,.int .i64 z])).run prog w=.ok (.bool (a == x&&(b == y&&c == z))) w:=by
 rw [run_eql_struct,show(10000:Nat)=9995+5 from rfl,z53]
 rfl
def FindR2 (B0:Nat)(w:World)(o:Option RelL)(e:Ending)(w':World):Prop:=∃ r',e=.returned (.tuple #[.agg (relC (o.getD default) r'),.bool o.isSome])∧ReqsOf B0 r' (o.getD default).reqs w'∧Below w.heap.size w w'
theorem z7h (v iv:Value)(X:List RelL)(y:SelL)(w:World)(B0:Nat)(hB0:B0≤w.heap.size)(hX:X.length≤1000000)(hq:∀ x∈X,RelBd x)(hR0:RelsOf B0 v X w) :
  Calls prog 40 #[.agg #[v,iv],.string y.1,.agg #[intC y.2.1,intC y.2.2.1,intC y.2.2.2]] w (FindR2 B0 w (findX X y)):=by
 have hR:=hR0.mono hB0
 obtain⟨ao,cap,rv,rfl,hrv⟩:=hR0.rv
 have HC:=zh (fun W (hb:Below w.heap.size w W)=>z5s (.slice ao X.length cap) iv X W hX hq ((hR.below hb (zq _)).mono hb.size))
 have HR:=zh hrv
 clear hR hR0 hq hrv
 obtain⟨o,ho⟩:∃ o,findX X y=o:=⟨_,rfl⟩
 have HO:=zh ho
 rw [ho]
 clear ho
 have hget:∀ (w:World) (o:Obj) (k:Nat),(w.alloc o).heap[k]? = if k=w.heap.size then some o else w.heap[k]?:=fun w o k=>by
  show(w.heap.push o)[k]? = _
  rw [Array.getElem?_push]
 have HG:Hid ((((w.alloc (.cells #[.slice ao X.length cap,iv] 25)).alloc (.cells #[intC y.2.1,intC y.2.2.1,intC y.2.2.2] 51)).alloc (.cells #[.string ⟨#[]⟩,.int .i64 0,.int .i64 0,.int .i64 0,.slice none 0 0,.string ⟨#[]⟩,.string ⟨#[]⟩,.string ⟨#[]⟩,.bool false] 82)).heap[w.heap.size]? = some (.cells #[.slice ao X.length cap,iv] 25 (0,0)) ∧
   (((w.alloc (.cells #[.slice ao X.length cap,iv] 25)).alloc (.cells #[intC y.2.1,intC y.2.2.1,intC y.2.2.2] 51)).alloc (.cells #[.string ⟨#[]⟩,.int .i64 0,.int .i64 0,.int .i64 0,.slice none 0 0,.string ⟨#[]⟩,.string ⟨#[]⟩,.string ⟨#[]⟩,.bool false] 82)).heap[w.heap.size+1]? = some (.cells #[intC y.2.1,intC y.2.2.1,intC y.2.2.2] 51 (0,0)) ∧
   BoxR (((w.alloc (.cells #[.slice ao X.length cap,iv] 25)).alloc (.cells #[intC y.2.1,intC y.2.2.1,intC y.2.2.2] 51)).alloc (.cells #[.string ⟨#[]⟩,.int .i64 0,.int .i64 0,.int .i64 0,.slice none 0 0,.string ⟨#[]⟩,.string ⟨#[]⟩,.string ⟨#[]⟩,.bool false] 82)) (w.heap.size+1+1) default (.slice none 0 0)):=zh (by
  refine⟨?_,?_,?_⟩
  ·simp only [hget,World.size_alloc];repeat (first | rw [if_pos trivial] | rw [if_neg (by omega)] | rw [if_pos (by omega)])
  ·simp only [hget,World.size_alloc];repeat (first | rw [if_pos trivial] | rw [if_neg (by omega)] | rw [if_pos (by omega)])
  ·unfold BoxR
   simp only [hget,World.size_alloc];repeat (first | rw [if_pos trivial] | rw [if_neg (by omega)] | rw [if_pos (by omega)])
   rfl)
 have HBW:Hid (Below w.heap.size w (((w.alloc (.cells #[.slice ao X.length cap,iv] 25)).alloc (.cells #[intC y.2.1,intC y.2.2.1,intC y.2.2.2] 51)).alloc (.cells #[.string ⟨#[]⟩,.int .i64 0,.int .i64 0,.int .i64 0,.slice none 0 0,.string ⟨#[]⟩,.string ⟨#[]⟩,.string ⟨#[]⟩,.bool false] 82))):=zh (by repeat (first | exact Below.refl _ _ | refine Below.drew ?_ | refine Below.alloc ?_ (by simp<;>omega) _ | refine Below.setCell ?_ (by simp<;>omega) _))
 have hws:w.heap.size+1+1<(((w.alloc (.cells #[.slice ao X.length cap,iv] 25)).alloc (.cells #[intC y.2.1,intC y.2.2.1,intC y.2.2.2] 51)).alloc (.cells #[.string ⟨#[]⟩,.int .i64 0,.int .i64 0,.int .i64 0,.slice none 0 0,.string ⟨#[]⟩,.string ⟨#[]⟩,.string ⟨#[]⟩,.bool false] 82)).heap.size:=by simp only [World.size_alloc];omega
 clear hget
 have HST:Hid (∀ (W0 W:World) (x:RelL) (rr:Value),BoxR W0 (w.heap.size+1+1) default (.slice none 0 0)→Below W0.heap.size W0 W→Below w.heap.size w W→o.getD default=x→ReqsOf B0 rr x.reqs W →
   (setRel W (w.heap.size+1+1) x rr).heap[w.heap.size+1+1]? = some (.cells (relC x rr) 82 (0,0))∧FindR2 B0 w o (.returned (.tuple #[.agg (relC x rr),.bool o.isSome])) (setRel W (w.heap.size+1+1) x rr)):=zh (by
  intro W0 W x rr h0 hb hbw hx hr
  have h1:=h0.on hb
  have hg:=z11 W (w.heap.size+1+1) x rr
  refine⟨z1h x rr h1,rr,by rw [hx],?_,hbw.grown hg hbw.size (fun b hb=>by cases hb;omega)⟩
  rw [hx]
  exact hr.below (B':=w.heap.size) ((Below.refl _ _).grown hg hbw.size (fun b hb=>by cases hb;omega)) hB0)
 go_enter func40,ntmps40
 go_upto_region 1 with fail
 generalize ((w.alloc (.cells #[.slice ao X.length cap,iv] 25)).alloc (.cells #[intC y.2.1,intC y.2.2.1,intC y.2.2.2] 51)).alloc (.cells #[.string ⟨#[]⟩,.int .i64 0,.int .i64 0,.int .i64 0,.slice none 0 0,.string ⟨#[]⟩,.string ⟨#[]⟩,.string ⟨#[]⟩,.bool false] 82)=W at *
 have c0:W.cell? ⟨w.heap.size,0,none⟩=some (.slice ao X.length cap):=zw _ _ 0 _ _ _ HG.out.1
 have c1:W.cell? ⟨w.heap.size,1,none⟩=some iv:=zw _ _ 1 _ _ _ HG.out.1
 go_wp2_with fail
 refine(HC.out _ HBW.out).mono ?_
 rintro e w1 ⟨rfl,hb1⟩
 have HB1:=zj HBW hb1
 have HI1:=zh ((hb1.block w.heap.size (by omega)).trans HG.out.1)
 have HV1:=zh ((hb1.block (w.heap.size+1) (by omega)).trans HG.out.2.1)
 have HZ1:=zh (HG.out.2.2.on hb1)
 have hs1:=hb1.size
 clear hb1 c0 c1 HG HC
 obtain⟨E,hE⟩:∃ E,checkX X=E:=⟨_,rfl⟩
 have HE:=zh hE
 rw [hE]
 clear hE
 have HZC:Hid (∀ W':World,Below w1.heap.size w1 W'→(W'.cell? ⟨w.heap.size+1+1,0,none⟩=some (.string ⟨#[]⟩)∧W'.cell? ⟨w.heap.size+1+1,1,none⟩=some (.int .i64 0)∧W'.cell? ⟨w.heap.size+1+1,2,none⟩=some (.int .i64 0)∧W'.cell? ⟨w.heap.size+1+1,3,none⟩=some (.int .i64 0)∧W'.cell? ⟨w.heap.size+1+1,4,none⟩=some (.slice none 0 0)∧W'.cell? ⟨w.heap.size+1+1,5,none⟩=some (.string ⟨#[]⟩)∧W'.cell? ⟨w.heap.size+1+1,6,none⟩=some (.string ⟨#[]⟩)∧W'.cell? ⟨w.heap.size+1+1,7,none⟩=some (.string ⟨#[]⟩)∧W'.cell? ⟨w.heap.size+1+1,8,none⟩=some (.bool false))∧∀ j,W'.frozen? ⟨w.heap.size+1+1,j,none⟩=false) :=
  zh (fun W' hb=>⟨(HZ1.out.on hb).cells,fun j=>frozen_of_row _ _ j _ _ (HZ1.out.on hb)⟩)
 by_cases h0:E=0
 case neg =>
  have h0b:(E != 0)=true:=by simpa using h0
  have HOD:Hid (o=none):=zh (by rw [← HO.out];unfold findX;rw [if_neg (by rw [HE.out];exact h0)])
  obtain⟨hbx,hfr⟩:=HST.out w1 w1 default (.slice none 0 0) HZ1.out (Below.refl _ _) HB1.out (by rw [HOD.out];rfl) ⟨none,0,rfl,fun i q hq=>by cases hq⟩
  rw [show o.isSome=false by rw [HOD.out];rfl]at hfr
  have HBX:=zh hbx
  have HFR:=zh hfr
  obtain⟨⟨b0,b1,b2,b3,b4,b5,b6,b7,b8⟩,F⟩:=HZC.out w1 (Below.refl _ _)
  have f0:=F 0
  have f1:=F 1
  have f2:=F 2
  have f3:=F 3
  have f4:=F 4
  have f5:=F 5
  have f6:=F 6
  have f7:=F 7
  have f8:=F 8
  clear F hbx hfr
  unfold setRel at HBX HFR
  simp only [show(default:RelL).path=⟨#[]⟩from rfl,show(default:RelL).ver=(0,0,0)from rfl,show(default:RelL).ar=⟨#[]⟩from rfl,show(default:RelL).ifc=⟨#[]⟩from rfl,show(default:RelL).cert=⟨#[]⟩from rfl,show(default:RelL).yk=false from rfl]at HBX HFR
  go_wp2_with fail
  refine bodyPost_ret (z0i rfl _ _ (w.heap.size+1+1) _ _ _ _ rfl HBX.out underlying82 rfl (by kernel_rfl)) rfl ?_
  exact HFR.out
 subst h0
 have HOF:=zh (show findR X y=o by rw [← HO.out];unfold findX;rw [if_pos HE.out])
 go_wp2_with fail
 go_loopw [8] (fun p wr=>Hid (∃ k:Nat,k≤X.length∧p=.int .i64 k∧(∀ j,j<k→keyL (X.getD j default)≠y)∧Below w1.heap.size w1 wr)) (fun p _=>X.length - (intOf p).toNat)
 case atStart=>exact zh ⟨0,Nat.zero_le _,rfl,fun j hj=>absurd hj (Nat.not_lt_zero _),Below.refl _ _⟩
 case round =>
  obtain⟨k,hk,rfl,hn,hb⟩:=hrel.out
  have HN:=zh hn
  have HB:=zh hb
  have hsl:=hb.size
  clear hrel hn hb
  have hi:=(HB.out.block w.heap.size (by omega)).trans HI1.out
  have hv:=(HB.out.block (w.heap.size+1) (by omega)).trans HV1.out
  have i0:wr.cell? ⟨w.heap.size,0,none⟩=some (.slice ao X.length cap):=zw _ _ 0 _ _ _ hi
  have v0:wr.cell? ⟨w.heap.size+1,0,none⟩=some (intC y.2.1):=zw _ _ 0 _ _ _ hv
  have v1:wr.cell? ⟨w.heap.size+1,1,none⟩=some (intC y.2.2.1):=zw _ _ 1 _ _ _ hv
  have v2:wr.cell? ⟨w.heap.size+1,2,none⟩=some (intC y.2.2.2):=zw _ _ 2 _ _ _ hv
  clear hi hv
  have HBW2:=zh (HB1.out.trans (HB.out.mono HB1.out.size))
  by_cases hlt:k<X.length
  case neg =>
   have hk2:k=X.length:=by omega
   subst hk2
   have HOD:Hid (o=none):=zh (by
    rw [← HOF.out]
    unfold findR
    rw [List.find?_eq_none]
    intro r hr e
    obtain⟨j,hj,rfl⟩:=List.mem_iff_getElem.1 hr
    have:=HN.out j hj
    rw [zg,ze hj]at this
    exact this (of_decide_eq_true e))
   obtain⟨hbx,hfr⟩:=HST.out w1 wr default (.slice none 0 0) HZ1.out HB.out HBW2.out (by rw [HOD.out];rfl) ⟨none,0,rfl,fun i q hq=>by cases hq⟩
   rw [show o.isSome=false by rw [HOD.out];rfl]at hfr
   have HBX:=zh hbx
   have HFR:=zh hfr
   obtain⟨⟨b0,b1,b2,b3,b4,b5,b6,b7,b8⟩,F⟩:=HZC.out wr HB.out
   have f0:=F 0
   have f1:=F 1
   have f2:=F 2
   have f3:=F 3
   have f4:=F 4
   have f5:=F 5
   have f6:=F 6
   have f7:=F 7
   have f8:=F 8
   clear F hbx hfr
   unfold setRel at HBX HFR
   simp only [show(default:RelL).path=⟨#[]⟩from rfl,show(default:RelL).ver=(0,0,0)from rfl,show(default:RelL).ar=⟨#[]⟩from rfl,show(default:RelL).ifc=⟨#[]⟩from rfl,show(default:RelL).cert=⟨#[]⟩from rfl,show(default:RelL).yk=false from rfl]at HBX HFR
   go_wp2_with fail
   refine bodyPost_ret (z0i rfl _ _ (w.heap.size+1+1) _ _ _ _ rfl HBX.out underlying82 rfl (by kernel_rfl)) rfl ?_
   exact HFR.out
  case pos =>
   have hlt2:(k:Int)<(X.length:Int):=by omega
   have hk0:(0:Int)≤(k:Int):=by omega
   obtain⟨b,off,rfl,hbl,hcs,hrq⟩:=HR.out k X[k] (by simp [hlt])
   have hgd:X.getD k default=X[k]:=by rw [zg,ze hlt];rfl
   have HFK:=zh (show keyL (X.getD k default)=y→o=some X[k]from fun h=>by
    rw [← HOF.out]
    unfold findR
    rw [List.find?_eq_some_iff_getElem]
    refine⟨by rw [← hgd];exact decide_eq_true h,k,hlt,rfl,fun j hj=>?_⟩
    have:=HN.out j hj
    rw [zg,ze (show j<X.length by omega)]at this
    simpa using this)
   obtain⟨x,hx⟩:∃ x,X[k]=x:=⟨_,rfl⟩
   rw [hx]at hgd hcs hrq HFK
   have HGD:=zh hgd
   obtain⟨r,hr⟩:∃ r,rv k=r:=⟨_,rfl⟩
   rw [hr]at hcs hrq
   clear hx hgd hr
   have HRQ:=zh hrq
   obtain⟨ra,rc,rfl,_⟩:=hrq
   have hbl:=Nat.lt_of_lt_of_le hbl hB0
   have hbw:b<wr.heap.size:=Nat.lt_of_lt_of_le hbl HBW2.out.size
   obtain⟨d0,d1,d2,d3,d4,d5,d6,d7,d8⟩:=hcs.below HBW2.out hbl
   clear hcs
   have hve:∀ W,(binOp .eql 51 (.agg #[intC x.ver.1,intC x.ver.2.1,intC x.ver.2.2]) (.agg #[intC y.2.1,intC y.2.2.1,intC y.2.2.2])).run prog W=.ok (.bool (decide (x.ver=y.2))) W:=fun W=>by
    rw [zmm]
    congr 2
    by_cases h1:x.ver.1=y.2.1<;>by_cases h2:x.ver.2.1=y.2.2.1<;>by_cases h3:x.ver.2.2=y.2.2.2<;>simp [h1,h2,h3,Prod.ext_iff]
   by_cases hp:x.path=y.1
   case neg =>
    have hpb:(x.path.toList == y.1.toList)=false:=by rw [z0q];exact decide_eq_false hp
    have HN2:=zh (show ∀ j,j<k+1→keyL (X.getD j default)≠y from fun j hj=>by
     by_cases e:j=k
     ·rw [e,HGD.out];exact fun e=>hp (congrArg (·.1) e)
     ·exact HN.out j (by omega))
    go_wp2_with fail
    go_quiet (fail)
    have HBQ:=zh (z00 HB.out nq)
    go_wp2_with fail
    all_goals
     refine⟨zh ⟨k+1,by omega,by go_num,HN2.out,HBQ.out⟩,?_⟩
     simp [intOf];omega
   have hpb:(x.path.toList == y.1.toList)=true:=by rw [z0q];exact decide_eq_true hp
   by_cases hvv:x.ver=y.2
   case neg =>
    have hvb:decide (x.ver=y.2)=false:=decide_eq_false hvv
    simp only [hvb]at hve
    have HN2:=zh (show ∀ j,j<k+1→keyL (X.getD j default)≠y from fun j hj=>by
     by_cases e:j=k
     ·rw [e,HGD.out];exact fun e=>hvv (congrArg (·.2) e)
     ·exact HN.out j (by omega))
    go_wp2_with fail
    go_quiet (fail)
    have HBQ:=zh (z00 HB.out nq)
    go_wp2_with fail
    all_goals
     refine⟨zh ⟨k+1,by omega,by go_num,HN2.out,HBQ.out⟩,?_⟩
     simp [intOf];omega
   have hvb:decide (x.ver=y.2)=true:=decide_eq_true hvv
   simp only [hvb]at hve
   have HOX:=zh (HFK.out (by rw [HGD.out];exact Prod.ext hp hvv))
   clear hp hvv
   go_wp2_with fail
   go_quiet (fail)
   have HBQ:=zh (z00 HB.out nq)
   have HBZ:=zh (z00 HBW2.out nq)
   have hsq:(wr.drewN nq).heap.size=wr.heap.size:=by simp
   have hcells:CellsAt (wr.drewN nq) b (off+k*9) x (.slice ra x.reqs.length rc)∧(wr.drewN nq).cell? ⟨w.heap.size,0,none⟩=some (.slice (some ⟨b,off,none⟩) X.length cap):=by
    unfold CellsAt
    simp only [World.cell?_drewN]
    exact⟨⟨d0,d1,d2,d3,d4,d5,d6,d7,d8⟩,i0⟩
   clear d0 d1 d2 d3 d4 d5 d6 d7 d8 i0 v0 v1 v2 hve hvb hpb
   generalize wr.drewN nq=wx at *
   obtain⟨⟨d0,d1,d2,d3,d4,d5,d6,d7,d8⟩,i0⟩:=hcells
   obtain⟨hbx,hfr⟩:=HST.out w1 wx x (.slice ra x.reqs.length rc) HZ1.out HBQ.out HBZ.out (by rw [HOX.out];rfl) (HRQ.out.below HBZ.out hB0)
   rw [show o.isSome=true by rw [HOX.out];rfl]at hfr
   have HBX:=zh hbx
   have HFR:=zh hfr
   obtain⟨⟨b0,b1,b2,b3,b4,b5,b6,b7,b8⟩,F⟩:=HZC.out wx HBQ.out
   have f0:=F 0
   have f1:=F 1
   have f2:=F 2
   have f3:=F 3
   have f4:=F 4
   have f5:=F 5
   have f6:=F 6
   have f7:=F 7
   have f8:=F 8
   clear F hbx hfr
   unfold setRel at HBX HFR
   simp only [relC_at]at HBX HFR
   go_wp2_with fail
   refine bodyPost_ret (z0i rfl _ _ (w.heap.size+1+1) _ _ _ _ rfl HBX.out underlying82 rfl (by kernel_rfl)) rfl ?_
   exact HFR.out
end Go.Proofs.YtapbhoodgnmnkaaGreatDoor
