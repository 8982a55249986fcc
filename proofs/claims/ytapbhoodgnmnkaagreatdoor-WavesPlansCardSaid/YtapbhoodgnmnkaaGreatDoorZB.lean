/- Laws and contracts. -/
import Derived.Test.YtapbhoodgnmnkaaGreatDoorZA
set_option linter.unusedVariables false
set_option linter.unusedSimpArgs false
set_option maxRecDepth 100000
set_option maxHeartbeats 32000000
namespace Go.Proofs.YtapbhoodgnmnkaaGreatDoor
open Go.Proofs.Tryz Go Go.RowKit
structure Rowed (B:Nat)(v:Value)(vs:List Value)(L:List (List Nat))(W:World):Prop where
 top:W.ownsRow B 109 1 v L.length vs
 row:∀ (i:Nat) (u:Value) (l:List Nat),vs[i]? = some u→L[i]? = some l→W.ownsRow B 3 1 u l.length (l.map natC)
theorem Rowed.far {B:Nat}{v:Value}{vs:List Value}{L:List (List Nat)}{W W':World}(h:Rowed B v vs L W)(hk:∀ b,B≤b→b<W.heap.size→W'.heap[b]? = W.heap[b]?):Rowed B v vs L W' :=
 ⟨z1c h.top (fun j hj=>hk j (h.top.lt j hj).1 (h.top.lt j hj).2),fun i u l hu hl=>z1c (h.row i u l hu hl) (fun j hj=>hk j ((h.row i u l hu hl).lt j hj).1 ((h.row i u l hu hl).lt j hj).2)⟩
theorem Rowed.push {B:Nat}{v v' u:Value}{vs:List Value}{L:List (List Nat)}{l:List Nat}{W W1:World}(h:Rowed B v vs L W)(hu:W.ownsRow B 3 1 u l.length (l.map natC))(hg:W.grownBy W1 v.ownBlock)(ho:W1.ownsRow B 109 1 v' (L.length+1) (vs++[u])):Rowed B v' (vs++[u]) (L++[l]) W1:=by
 have hvl:vs.length=L.length:=by have:=h.top.1;omega
 refine⟨by rw [List.length_append,List.length_singleton];exact ho,fun i x m hx hm=>?_⟩
 rw [List.getElem?_append]at hx hm
 by_cases hi:i<vs.length
 ·rw [if_pos hi]at hx
  rw [if_pos (by omega)]at hm
  have hr:=h.row i x m hx hm
  exact hr.kept hg (z2v hr h.top (by decide))
 ·rw [if_neg hi]at hx
  rw [if_neg (by omega)]at hm
  have e:i - vs.length=0:=by have:=(zc hx);simp at this;omega
  have e2:i - L.length=0:=by omega
  rw [e]at hx
  rw [e2]at hm
  cases hx
  cases hm
  exact hu.kept hg (z2v hu h.top (by decide))
theorem Rowed.rows {B:Nat}{v:Value}{vs:List Value}{L:List (List Nat)}{W:World}(h:Rowed B v vs L W):RowsOf W.heap.size v L W:=by
 have hvl:vs.length=L.length:=by have:=h.top.1;omega
 rcases h.top.2 with ⟨rfl,h0⟩ | ⟨g,cap,cur,rfl,hb,hg,hc,_⟩
 ·exact .inl ⟨List.length_eq_zero_iff.1 h0,_,_,rfl⟩
 ·refine .inr ⟨g,0,cap,rfl,(zb hg),fun i l hl=>?_⟩
  have hi:i<vs.length:=by have:=(zc hl);omega
  refine⟨vs[i],?_,(z1q (h.row i vs[i] l (by simp [hi]) hl)).2⟩
  rw [Nat.zero_add]
  exact z0t h.top i _ (by simp [hi])
def rdyP (N:Nat)(es:List (Int×Int))(fl:List Bool)(i:Nat)(x:Int×Int):Bool:=decide (grpN N es x.1.toNat≠i)||(decide (grpN N es x.2.toNat=i)||bD fl (grpN N es x.2.toNat))
theorem zej (N:Nat)(es:List (Int×Int))(fl:List Bool)(i:Nat):rdyN N es fl i=((grpN N es i == i&&!bD fl i)&&es.all (rdyP N es fl i)):=rfl
def nxtK (N:Nat)(es:List (Int×Int))(fl:List Bool)(j:Nat):Option Nat:=(List.range' j (N - j)).find? (rdyN N es fl)
theorem zlz (N:Nat)(es:List (Int×Int))(fl:List Bool):nxtK N es fl N=none:=by unfold nxtK;rw [Nat.sub_self];rfl
theorem zja (N:Nat)(es:List (Int×Int))(fl:List Bool):nxtK N es fl 0=(List.range N).find? (rdyN N es fl):=by unfold nxtK;rw [Nat.sub_zero,← List.range_eq_range']
theorem zj9 {N:Nat}{es:List (Int×Int)}{fl:List Bool}{j:Nat}(h:j<N):nxtK N es fl j=if rdyN N es fl j=true then some j else nxtK N es fl (j+1):=by
 unfold nxtK
 rw [show N - j=(N - (j+1))+1 by omega,List.range'_succ,List.find?_cons]
 cases rdyN N es fl j<;>rfl
def nxtV:Option Nat→Value
 | none=>.int .i64 (-1)
 | some n=>.int .i64 (n:Int)
def lenOf:Value→Nat
 | .slice _ n _=>n
 | _=>0
theorem zmy {N:Nat}{es:List (Int×Int)}{i:Nat}(hi:i<N):grpN N es i<N:=by rw [← zbv];exact zih hi 0
theorem z3v (a:Option Addr)(ns:List ByteArray)(N c:Nat)(ev:Value)(es:List (Int×Int))(w:World)(hNN:N=ns.length)(hE:EdgesOf w.heap.size ev es w)(hR:RowOf Value.string w.heap.size (.slice a N c) ns w)(hval:validG N es=true) :
  Calls prog 34 #[.agg #[.slice a N c,ev]] w fun e w'=>∃ v,e=.returned v∧RowsOf w'.heap.size v (compsG N es) w'∧Below w.heap.size w w':=by
 obtain⟨hNn,hNe⟩:=z1x hval
 have hb1:Below w.heap.size w (w.alloc (.cells #[.slice a N c,ev] 32)):=z0h _ _
 have hv:=z4p a N c ev es _ (by omega) (by omega) ((hE.below hb1 (zq _)).mono hb1.size)
 rw [hval]at hv
 have hE0:=hE
 obtain⟨ao,ec,rfl,hE2⟩:=hE
 have HGOLD:=zh (zn w (.cells #[.slice a N c,.slice ao es.length ec] 32))
 have HVC:=zh hv
 have HV:=zh hval
 have HB1:=zh hb1
 have HE:=zh hE2
 have HE0:=zh hE0
 have HR:=zh hR
 have HNN:=zh hNN
 obtain⟨j0,hj0',hy0,hy1,hy2⟩:=info_parts z16
 obtain⟨i1,hi1',hz0,hz1,hz2⟩:=info_parts z2s
 obtain⟨M,hM⟩:∃ M,M=(nodesG N es).length:=⟨_,rfl⟩
 have hMN:M≤N:=by rw [hM];exact(z2u (numbered N es)).1
 have HMM:=zh hM
 clear hv hb1 hE2 hE0 hR hval hM hNN
 go_enter func34,ntmps34
 go_wp2_with fail
 refine HVC.out.mono ?_
 rintro e w1 ⟨rfl,hb⟩
 have hs1:=hb.size
 simp only [World.size_alloc]at hs1
 have HG1:=zh ((hb.block w.heap.size (by simp)).trans HGOLD.out)
 have HW1:=zh (HB1.out.trans (hb.mono (by simp)))
 have hg0:w1.cell? ⟨w.heap.size,0,none⟩=some (.slice a N c):=zw _ _ 0 _ _ _ HG1.out
 have hg1:w1.cell? ⟨w.heap.size,1,none⟩=some (.slice ao es.length ec):=zw _ _ 1 _ _ _ HG1.out
 have HGC:=zh (z94 a ns N c (.slice ao es.length ec) es w1 HNN.out ((HE0.out.below HW1.out (zq _)).mono (by omega)) ((HR.out.below HW1.out (zq _)).mono (by omega)) HV.out)
 clear hb HVC HB1 HGOLD
 go_wp2_with fail
 refine HGC.out.mono ?_
 rintro e w2 ⟨gv,rfl,hgo,hb2⟩
 have hs2:=hb2.size
 have HG2:=zh ((hb2.block w.heap.size (by omega)).trans HG1.out)
 have HW2:=zh (HW1.out.trans (hb2.mono (by omega)))
 obtain⟨ga,gc,rfl⟩:=z09 hgo
 have hgr:RowOf natC w2.heap.size (.slice ga N gc) ((List.range N).map (grpN N es)) w2:=by
  have:=(z1q (l:=(List.range N).map (grpN N es)) hgo).2
  exact this
 have HGR:Hid (∀ i,i<N→∃ b off,ga=some ⟨b,off,none⟩∧b<w2.heap.size∧w2.cell? ⟨b,off+i,none⟩=some (.int .i64 (grpN N es i:Int))):=zh (fun i hi=>by
  rcases hgr with ⟨h,_⟩ | ⟨b,off,cap,e,hb,h⟩
  ·have:=congrArg List.length h;simp at this;omega
  ·obtain⟨e1,_,_⟩:=Value.slice.inj e
   exact⟨b,off,e1,hb,h i _ (by rw [List.getElem?_map,List.getElem?_range hi];rfl)⟩)
 have hg0:w2.cell? ⟨w.heap.size,0,none⟩=some (.slice a N c):=zw _ _ 0 _ _ _ HG2.out
 have hmk:=z5z N (by omega) w2
 obtain⟨W4,hW4⟩:∃ W,W=(w2.alloc (.cells (Array.replicate N (.bool false)) 4)).alloc (.cells #[] 109):=⟨_,rfl⟩
 have hs4:W4.heap.size=w2.heap.size+1+1:=by rw [hW4];simp
 have HB4:Hid (Below w2.heap.size w2 W4):=zh (by rw [hW4];exact((Below.refl _ _).alloc (zq _) _).alloc (by simp) _)
 have HF4:Hid (Flags W4 w2.heap.size (List.replicate N false)):=zh (by
  rw [hW4]
  exact(Below.heap_alloc _ _ _ (by simp)).trans ((zn w2 _).trans (by simp)))
 have HO4:Hid (Rowed (w2.heap.size+1) (.slice (some ⟨w2.heap.size+1,0,none⟩) 0 0) [] [] W4):=zh ⟨by
  rw [hW4]
  have:=z2j (w2.heap.size+1) 109 0 [] (w2.alloc (.cells (Array.replicate N (.bool false)) 4)) (by simp) (by decide) rfl
  rw [World.size_alloc]at this
  exact this,fun i u l hu=>by simp at hu⟩
 clear hb2 hgo hgr HGC hg1
 go_wp2_with fail
 rw [← hW4]
 clear hW4 hmk hg0
 go_loopw [5] (fun o wr=>∃ (k:Nat) (vs:List Value),k≤M∧lenOf o=k∧Hid (Rowed (w2.heap.size+1) o vs (rcRunN N es k).2 wr)∧Hid ((rcRunN N es k).2.length=k)∧Hid (Flags wr w2.heap.size (rcRunN N es k).1)∧Hid (Below w2.heap.size w2 wr)) (fun o _=>M - lenOf o)
 case atStart=>exact⟨0,[],by omega,rfl,HO4,zh rfl,HF4,HB4⟩
 case round =>
  clear HO4 HF4 HB4
  obtain⟨k0,vs,hk0,hlo,HO,HLN,HF,HBO⟩:=hrel
  have htop:=HO.out.top
  rw [HLN.out]at htop
  obtain⟨oa,oc,hov⟩:=z09 htop
  subst hov
  clear hlo htop
  obtain⟨Wo,hWo⟩:∃ W:World,W=wr:=⟨_,rfl⟩
  subst hWo
  have hso:=HBO.out.size
  have hgl:w2.heap.size<Wo.heap.size:=(zb HF.out)
  have hok:=z85 HV.out k0 (by rw [← HMM.out];exact hk0)
  obtain⟨fl,hfl⟩:∃ fl,fl=(rcRunN N es k0).1:=⟨_,rfl⟩
  have hfll:fl.length=N:=by rw [hfl];exact hok.1
  have HFL:=zh hfl
  rw [← hfl]at HF
  clear hok hfl
  have hg0:Wo.cell? ⟨w.heap.size,0,none⟩=some (.slice a N c):=zw _ _ 0 _ _ _ ((HBO.out.block _ (by omega)).trans HG2.out)
  have hwN:IntKind.i64.wrap ((N:Int) - 1)=(N:Int) - 1:=IntWalk.i64_in _ (by omega)
  go_wp2_with fail
  clear hg0
  go_loopw [6,7] (fun s q wr=>∃ j:Nat,j≤N∧q=.int .i64 ((j:Int) - 1)∧s=nxtV (nxtK N es fl j)∧Hid (Below Wo.heap.size Wo wr)) (fun _ q _=>(intOf q+1).toNat)
  case atStart=>exact⟨N,zq _,rfl,by rw [zlz];rfl,zh (Below.refl _ _)⟩
  case round =>
   obtain⟨j,hj,hq,rfl,HBJ⟩:=hrel
   have hsj:=HBJ.out.size
   cases j with
   | zero =>
    rw [show((0:Nat):Int) - 1=-1 from by decide]at hq
    subst hq
    have HNF:=zh (zja N es fl)
    cases hf:nxtK N es fl 0 with
    | none =>
     have HKM:Hid (k0=M):=zh (by
      refine Classical.byContradiction fun hne=>?_
      have hlt:k0+1≤M:=by omega
      have h1:=(z85 HV.out (k0+1) (by rw [← HMM.out];exact hlt)).2.2.1
      have h2:(rcRunN N es (k0+1)).2=(rcRunN N es k0).2:=by
       show(rcStepN N es (rcRunN N es k0)).2=_
       unfold rcStepN
       rw [← HFL.out,← HNF.out,hf]
      rw [h2]at h1
      have h3:=congrArg List.length h1
      rw [HLN.out,List.length_map,List.length_take,z0x,(z0p N es).1,← HMM.out]at h3
      omega)
     have HOE:Hid ((rcRunN N es k0).2=compsG N es):=zh (by rw [HKM.out,HMM.out];exact(z9k HV.out).1)
     have HOW:=zh (HO.out.far (W':=wr) (fun b _ hb=>HBJ.out.block b hb))
     unfold nxtV
     clear hf HNF
     go_wp2_with fail
     go_ret
     exact⟨_,rfl,by rw [← HOE.out];exact HOW.out.rows,HW2.out.trans ((HBO.out.trans (HBJ.out.mono hso)).mono (by omega))⟩
    | some n =>
     have hnN:n<N:=by rw [HNF.out]at hf;exact List.mem_range.1 (List.mem_of_find?_eq_some hf)
     have hrd:rdyN N es fl n=true:=by rw [HNF.out]at hf;exact List.find?_some hf
     have HKM:Hid (k0+1≤M):=zh (by
      refine Classical.byContradiction fun hne=>?_
      have hk:k0=M:=by omega
      have h1:=(z9k HV.out).2 n hnN
      rw [← HMM.out,← hk,← HFL.out,hrd]at h1
      cases h1)
     have HNX:Hid (rcRunN N es (k0+1)=(fl.set n true,(rcRunN N es k0).2++[(List.range N).filter fun i=>grpN N es i == n])):=zh (by
      show rcStepN N es (rcRunN N es k0)=_
      unfold rcStepN
      rw [← HFL.out,← HNF.out,hf])
     have hn0:(0:Int)≤(n:Int):=by omega
     have hn1:(n:Int)<(N:Int):=by omega
     have HFW:Hid (Flags wr w2.heap.size fl):=zh ((HBJ.out.block _ hgl).trans HF.out)
     have hbd:fl[n]? = some (bD fl n):=by
      unfold bD
      rw [zg,ze (by omega)]
      rfl
     have hcn:=HFW.out.cell n _ hbd
     have hfz:=frozen_of_row _ _ n _ _ HFW.out
     have HOW:=zh (HO.out.far (W':=wr.setCell ⟨w2.heap.size,n,none⟩ (.bool true)) (fun b hb1 hb=>(heap_setCell_other _ _ _ _ (fun e=>by have e:b=w2.heap.size:=e;omega)).trans (HBJ.out.block b hb)))
     have HFS:=zh (HFW.out.set n true)
     have HBS:Hid (Below w2.heap.size w2 (wr.setCell ⟨w2.heap.size,n,none⟩ (.bool true))):=zh ((HBO.out.trans (HBJ.out.mono hso)).setCell (by exact zq _) _)
     obtain⟨W6,hW6⟩:∃ W,W=wr.setCell ⟨w2.heap.size,n,none⟩ (.bool true):=⟨_,rfl⟩
     have hs6:W6.heap.size=wr.heap.size:=by rw [hW6];exact World.size_setCell _ _ _
     rw [← hW6]at HOW HFS HBS
     have HC0:Hid ((W6.alloc (.cells #[] 3)).ownsRow W6.heap.size 3 1 (.slice (some ⟨W6.heap.size,0,none⟩) 0 0) 0 []):=zh (z2j W6.heap.size 3 0 [] W6 (zq _) (by decide) rfl)
     have HCB:Hid (Below W6.heap.size W6 (W6.alloc (.cells #[] 3))):=zh (z0h _ _)
     unfold nxtV
     clear hf HNF hrd hbd
     go_wp2_with fail
     rw [← hW6]
     rw [← hs6]
     have hs6a:W6.heap.size≤wr.heap.size:=by omega
     have hs6b:wr.heap.size≤W6.heap.size:=by omega
     clear hcn hfz hW6 hs6
     go_loopw [11,12] (fun cv q wr=>∃ m:Nat,m≤N∧q=.int .i64 m∧Hid (wr.ownsRow W6.heap.size 3 1 cv ((List.range m).filter fun i=>grpN N es i == n).length (((List.range m).filter fun i=>grpN N es i == n).map natC))∧Hid (Below W6.heap.size W6 wr)) (fun _ q _=>N - (intOf q).toNat)
     case atStart=>exact⟨0,by omega,rfl,HC0,HCB⟩
     case round =>
      clear HC0 HCB
      obtain⟨m,hm,rfl,HC,HBC⟩:=hrel
      have hsc:=HBC.out.size
      obtain⟨ca,cc,rfl⟩:=z09 HC.out
      have hg0:wr.cell? ⟨w.heap.size,0,none⟩=some (.slice a N c):=zw _ _ 0 _ _ _ ((HBC.out.block _ (by omega)).trans ((HBS.out.block _ (by omega)).trans HG2.out))
      have hfl2:((List.range m).filter fun i=>grpN N es i == n).length≤m:=by
       have:=List.length_filter_le (fun i=>grpN N es i == n) (List.range m)
       rwa [List.length_range]at this
      by_cases hlt2:m<N
      case pos =>
       have hm0:(0:Int)≤(m:Int):=by omega
       have hm1:(m:Int)<(N:Int):=by omega
       obtain⟨gb,go,rfl,hgb,hgk⟩:=HGR.out m hlt2
       have hgk:=((HBS.out.trans (HBC.out.mono (by omega))).cell (p:=⟨gb,go+m,none⟩) hgb).trans hgk
       have HT:Hid ((List.range (m+1)).filter (fun i=>grpN N es i == n)=(List.range m).filter (fun i=>grpN N es i == n)++if (grpN N es m == n)=true then [m] else []):=zh (by rw [List.range_succ,List.filter_append];congr 1;rw [List.filter_cons];rfl)
       obtain⟨gm,hgm⟩:∃ gm,gm=grpN N es m:=⟨_,rfl⟩
       rw [← hgm]at hgk HT
       clear hgm
       by_cases hq2:gm=n
       case pos =>
        rw [if_pos (by simpa using hq2)]at HT
        have r1:(gm:Int)=(n:Int):=by omega
        have r2:decide ((gm:Int)=(n:Int))=true:=decide_eq_true r1
        have r3:((gm:Int) == (n:Int))=true:=by simpa using r1
        have r4:(gm == n)=true:=by simpa using hq2
        clear hq2 r1
        go_wp2_with (at_builtin;refine wpList_append_own _ rfl _ _ 109 rfl W6.heap.size 3 j0 (.int .i64 0) 1 8 underlying109 hj0' hy0 hy1 hy2 rfl (by decide) _ _ _ (by rfl) (HC.out.alloc _) ⟨wr.heap.size,0,none⟩ 1 1 [natC m] (by rfl) (by rfl) (World.news_of_block (cs:=#[natC m]) (t:=3) (fr:=(0,0)) (heap_alloc_new wr _)) (by simp [Value.oneCell']) (by unfold maxLen;omega) (by omega) (by simp;omega) ?_;intro v' w5 hown' hgrow _)
        go_roundw
        case rel=>exact⟨m+1,by omega,by go_num,zh (by rw [HT.out,List.length_append,List.map_append];exact hown'),zh ((HBC.out.alloc hsc _).grown hgrow (by simp;omega) (fun b hb=>(HC.out.lt b hb).1))⟩
        case measure=>simp [intOf];omega
       case neg =>
        have r1:¬ (gm:Int)=(n:Int):=by omega
        have r2:decide ((gm:Int)=(n:Int))=false:=decide_eq_false r1
        have r3:((gm:Int) == (n:Int))=false:=by simpa using r1
        have r4:(gm == n)=false:=by simpa using hq2
        rw [if_neg (by simpa using hq2),List.append_nil]at HT
        go_wp2_with fail
        go_roundw
        case rel=>exact⟨m+1,by omega,by go_num,zh (by rw [HT.out];exact HC.out),HBC⟩
        case measure=>simp [intOf];omega
      case neg =>
       have hmN:m=N:=by omega
       have hce:=HC.out
       rw [hmN]at hce
       have HCW:Hid (wr.ownsRow (w2.heap.size+1) 3 1 (.slice ca ((List.range m).filter fun i=>grpN N es i == n).length cc) ((List.range N).filter fun i=>grpN N es i == n).length (((List.range N).filter fun i=>grpN N es i == n).map natC)):=zh (by
        rw [hmN]
        exact⟨hce.1,hce.2.imp id fun⟨g,cap,cur,h1,h2,h3⟩=>⟨g,cap,cur,h1,by omega,h3⟩⟩)
       have HOV:=zh (HOW.out.far (W':=wr) (fun b _ hb=>HBC.out.block b hb))
       have htv:=HOV.out.top
       rw [HLN.out]at htv
       have HTV:=zh htv
       have HFV:Hid (Flags wr w2.heap.size (fl.set n true)):=zh ((HBC.out.block _ (by omega)).trans HFS.out)
       have HBV:Hid (Below w2.heap.size w2 wr):=zh (HBS.out.trans (HBC.out.mono (by omega)))
       have hVg:w2.heap.size<wr.heap.size:=by omega
       have hk0N:k0≤1024:=by omega
       generalize ((List.range m).filter fun i=>grpN N es i == n).length=cl at *
       clear hce htv
       go_wp2_with (at_builtin;refine wpList_append_own _ rfl _ _ 73 rfl (w2.heap.size+1) 109 i1 (.slice none 0 0) 1 24 underlying73 hi1' hz0 hz1 hz2 rfl (by decide) _ k0 vs (by rfl) (HTV.out.alloc _) ⟨wr.heap.size,0,none⟩ 1 1 [.slice ca cl cc] (by rfl) (by rfl) (World.news_of_block (cs:=#[.slice ca cl cc]) (t:=109) (fr:=(0,0)) (heap_alloc_new wr _)) (by simp [Value.oneCell']) (by unfold maxLen;omega) (by omega) (by simp;omega) ?_;intro v' w5 hown' hgrow _;have HOW5:=zh hown';have HGR5:=zh hgrow;clear hown' hgrow;obtain⟨a5,c5,rfl⟩:=z09 HOW5.out)
       go_roundw
       case rel =>
        refine⟨k0+1,vs++[.slice ca cl cc],HKM.out,rfl,zh ?_,zh (by rw [HNX.out,List.length_append,HLN.out];rfl),zh ?_,zh ?_⟩
        ·rw [HNX.out]
         have hal:=HOV.out.far (W':=wr.alloc (.cells #[.slice ca cl cc] 109)) (fun b _ hb=>Below.heap_alloc _ _ _ hb)
         exact hal.push (HCW.out.alloc _) HGR5.out (by rw [HLN.out];exact HOW5.out)
        ·rw [HNX.out]
         exact(HGR5.out.block _ (by rw [World.size_alloc];omega) (fun e=>by have:=(HTV.out.lt _ e.symm).1;omega)).trans ((Below.heap_alloc _ _ _ hVg).trans HFV.out)
        ·exact(HBV.out.alloc (by omega) _).grown HGR5.out (by simp;omega) (fun b hb=>by have:=(HTV.out.lt b hb).1;omega)
       case measure=>(show M - (k0+1)<M - k0;have:=HKM.out;omega)
   | succ k =>
    rw [show((k+1:Nat):Int) - 1=(k:Int)from by omega]at hq
    subst hq
    have hkN:k<N:=by omega
    have hk0:(0:Int)≤(k:Int):=by omega
    have hk1:(k:Int)<(N:Int):=by omega
    have hwk:IntKind.i64.wrap ((k:Int) - 1)=(k:Int) - 1:=IntWalk.i64_in _ (by omega)
    obtain⟨gb,go,rfl,hgb,hgk⟩:=HGR.out k hkN
    have HBW2:Hid (Below w2.heap.size w2 wr):=zh (HBO.out.trans (HBJ.out.mono hso))
    have hgk:=(HBW2.out.cell (p:=⟨gb,go+k,none⟩) hgb).trans hgk
    have hbd:fl[k]? = some (bD fl k):=by
     unfold bD
     rw [zg,ze (by omega)]
     rfl
    have hfk:=Flags.cell (show Flags wr w2.heap.size fl from(HBJ.out.block _ hgl).trans HF.out) k _ hbd
    obtain⟨gk,hgkk⟩:∃ gk,gk=grpN N es k:=⟨_,rfl⟩
    rw [← hgkk]at hgk
    obtain⟨bk,hbk⟩:∃ bk,bk=bD fl k:=⟨_,rfl⟩
    rw [← hbk]at hfk
    have HR0:Hid ((grpN N es k == k&&!bD fl k)=(decide (gk=k)&&!bk)):=zh (by rw [hgkk,hbk];congr 1)
    have HST:=zh (zj9 (es:=es) (fl:=fl) hkN)
    clear hgkk hbk hbd
    obtain⟨Wk,hWk⟩:∃ W:World,W=wr:=⟨_,rfl⟩
    subst hWk
    by_cases hgq:gk=k
    case neg =>
     have e1:¬ (gk:Int)=(k:Int):=by omega
     have e2:decide ((gk:Int)=(k:Int))=false:=decide_eq_false e1
     have e3:((gk:Int) == (k:Int))=false:=by simpa using e1
     have e4:(gk == k)=false:=by simpa using hgq
     have HRD:Hid (rdyN N es fl k=false):=zh (by rw [zej,HR0.out,Bool.and_eq_false_iff];exact .inl (by rw [decide_eq_false hgq];rfl))
     clear HR0
     go_wp2_with fail
     go_loopw [8,9] (fun s q wr=>s=.bool false∧q=.int .i64 0∧wr=Wk) (fun _ _ _=>0)
     case atStart=>exact⟨rfl,rfl,rfl⟩
     case round =>
      obtain⟨rfl,rfl,rfl⟩:=hrel
      have hg1:wr.cell? ⟨w.heap.size,1,none⟩=some (.slice ao es.length ec):=zw _ _ 1 _ _ _ ((HBJ.out.block _ (by omega)).trans ((HBO.out.block _ (by omega)).trans HG2.out))
      by_cases hz:0<es.length
      case pos =>
       have z1:(0:Int)<(es.length:Int):=by omega
       have z2:decide ((0:Int)<(es.length:Int))=true:=decide_eq_true z1
       go_wp2_with fail
       go_roundw
       case rel=>exact⟨k,by omega,rfl,by rw [HST.out,HRD.out];rfl,HBJ⟩
       case measure=>(show((k:Int) - 1+1).toNat<((k:Int)+1).toNat;omega)
      case neg =>
       have z1:¬ (0:Int)<(es.length:Int):=by omega
       have z2:decide ((0:Int)<(es.length:Int))=false:=decide_eq_false z1
       go_wp2_with fail
       go_roundw
       case rel=>exact⟨k,by omega,rfl,by rw [HST.out,HRD.out];rfl,HBJ⟩
       case measure=>(show((k:Int) - 1+1).toNat<((k:Int)+1).toNat;omega)
    case pos =>
     have hbkc:bk=true∨bk=false:=by cases bk<;>simp
     cases bk with
     | true =>
      have e1:(gk:Int)=(k:Int):=by omega
      have e2:decide ((gk:Int)=(k:Int))=true:=decide_eq_true e1
      have e3:((gk:Int) == (k:Int))=true:=by simpa using e1
      have e4:(gk == k)=true:=by simpa using hgq
      have HRD:Hid (rdyN N es fl k=false):=zh (by rw [zej,HR0.out,Bool.and_eq_false_iff];exact .inl (by simp))
      clear HR0
      go_wp2_with fail
      go_loopw [8,9] (fun s q wr=>s=.bool false∧q=.int .i64 0∧wr=Wk) (fun _ _ _=>0)
      case atStart=>exact⟨rfl,rfl,rfl⟩
      case round =>
       obtain⟨rfl,rfl,rfl⟩:=hrel
       have hg1:wr.cell? ⟨w.heap.size,1,none⟩=some (.slice ao es.length ec):=zw _ _ 1 _ _ _ ((HBJ.out.block _ (by omega)).trans ((HBO.out.block _ (by omega)).trans HG2.out))
       by_cases hz:0<es.length
       case pos =>
        have z1:(0:Int)<(es.length:Int):=by omega
        have z2:decide ((0:Int)<(es.length:Int))=true:=decide_eq_true z1
        go_wp2_with fail
        go_roundw
        case rel=>exact⟨k,by omega,rfl,by rw [HST.out,HRD.out];rfl,HBJ⟩
        case measure=>(show((k:Int) - 1+1).toNat<((k:Int)+1).toNat;omega)
       case neg =>
        have z1:¬ (0:Int)<(es.length:Int):=by omega
        have z2:decide ((0:Int)<(es.length:Int))=false:=decide_eq_false z1
        go_wp2_with fail
        go_roundw
        case rel=>exact⟨k,by omega,rfl,by rw [HST.out,HRD.out];rfl,HBJ⟩
        case measure=>(show((k:Int) - 1+1).toNat<((k:Int)+1).toNat;omega)
     | false =>
      have HR1:Hid (rdyN N es fl k=es.all (rdyP N es fl k)):=zh (by rw [zej,HR0.out];simp [hgq])
      have e1:(gk:Int)=(k:Int):=by omega
      have e2:decide ((gk:Int)=(k:Int))=true:=decide_eq_true e1
      have e3:((gk:Int) == (k:Int))=true:=by simpa using e1
      have e4:(gk == k)=true:=by simpa using hgq
      clear HR0
      go_wp2_with fail
      clear e1 e2 e3 e4
      go_loopw [8,9] (fun s q wr=>∃ (m:Nat) (v:Bool),m≤es.length∧q=.int .i64 m∧s=.bool v∧Hid ((es.take m).all (rdyP N es fl k)=v)∧Hid (Below Wk.heap.size Wk wr)) (fun _ q _=>es.length - (intOf q).toNat)
      case atStart=>exact⟨0,true,by omega,rfl,rfl,zh rfl,zh (Below.refl _ _)⟩
      case round =>
       obtain⟨m,v,hm,rfl,rfl,HVV,HBM⟩:=hrel
       have hsm:=HBM.out.size
       have HBX:Hid (Below Wo.heap.size Wo wr):=zh (HBJ.out.trans (HBM.out.mono hsj))
       have hg1:wr.cell? ⟨w.heap.size,1,none⟩=some (.slice ao es.length ec):=zw _ _ 1 _ _ _ ((HBX.out.block _ (by omega)).trans ((HBO.out.block _ (by omega)).trans HG2.out))
       by_cases hlt2:m<es.length
       case neg =>
        have hmm:m=es.length:=by omega
        subst hmm
        have hvv:=HVV.out
        rw [List.take_length]at hvv
        have HRD:Hid (rdyN N es fl k=v):=zh (by rw [HR1.out];exact hvv)
        clear hvv
        cases v
        all_goals
         go_wp2_with fail
         go_roundw
         case rel=>exact⟨k,by omega,rfl,by rw [HST.out,HRD.out];rfl,HBX⟩
         case measure=>(show((k:Int) - 1+1).toNat<((k:Int)+1).toNat;omega)
       case pos =>
        have hm0:(0:Int)≤(m:Int):=by omega
        have hm1:(m:Int)<(es.length:Int):=by omega
        cases v with
        | false =>
         have HRD:Hid (rdyN N es fl k=false):=zh (by
          rw [HR1.out]
          have h:=HVV.out
          have h2:es.all (rdyP N es fl k)=((es.take m).all (rdyP N es fl k)&&(es.drop m).all (rdyP N es fl k)):=by rw [← List.all_append,List.take_append_drop]
          rw [h2,h]
          rfl)
         go_wp2_with fail
         go_roundw
         case rel=>exact⟨k,by omega,rfl,by rw [HST.out,HRD.out];rfl,HBX⟩
         case measure=>(show((k:Int) - 1+1).toNat<((k:Int)+1).toNat;omega)
        | true =>
         obtain⟨b,off,hao,hb,hc1,hc2⟩:=HE.out m es[m] (by simp [hlt2])
         subst hao
         have HBW:Hid (Below w.heap.size w wr):=zh (HW2.out.trans ((HBO.out.trans (HBX.out.mono hso)).mono (by omega)))
         have hc1:=(HBW.out.cell (p:=⟨b,off+m*2,none⟩) hb).trans hc1
         have hc2:=(HBW.out.cell (p:=⟨b,off+m*2+1,none⟩) hb).trans hc2
         have hed:=z11 HV.out (List.getElem_mem hlt2)
         have HT:Hid ((es.take (m+1)).all (rdyP N es fl k)=((es.take m).all (rdyP N es fl k)&&rdyP N es fl k es[m])):=zh (by rw [zs hlt2,List.all_append];simp)
         obtain⟨⟨x1,x2⟩,hx⟩:∃ x,x=es[m]:=⟨_,rfl⟩
         rw [← hx]at hc1 hc2 hed HT
         clear hx
         obtain⟨i,rfl⟩:∃ i:Nat,x1=(i:Int):=⟨x1.toNat,by simp at hed;omega⟩
         obtain⟨j,rfl⟩:∃ j:Nat,x2=(j:Int):=⟨x2.toNat,by simp at hed;omega⟩
         simp only at hc1 hc2 hed
         obtain⟨hi0,hi1,hj0,hj1⟩:=hed
         have hiN:i<N:=by omega
         have hjN:j<N:=by omega
         obtain⟨gb2,go2,hge,_,hgi⟩:=HGR.out i hiN
         cases hge
         obtain⟨gb3,go3,hge,_,hgj⟩:=HGR.out j hjN
         cases hge
         have HBW3:Below w2.heap.size w2 wr:=HBO.out.trans (HBX.out.mono hso)
         have hgi:=(HBW3.cell (p:=⟨gb,go+i,none⟩) hgb).trans hgi
         have hgj:=(HBW3.cell (p:=⟨gb,go+j,none⟩) hgb).trans hgj
         have hgjN:=zmy (es:=es) hjN
         have HPP:Hid (rdyP N es fl k ((i:Int),(j:Int))=(decide (grpN N es i≠k)||(decide (grpN N es j=k)||bD fl (grpN N es j)))):=zh (by unfold rdyP;simp only [Int.toNat_natCast])
         have hfj0:fl[grpN N es j]? = some (bD fl (grpN N es j)):=by
          unfold bD
          rw [zg,ze (by omega)]
          rfl
         have hfj:=Flags.cell (show Flags wr w2.heap.size fl from(HBX.out.block _ hgl).trans HF.out) _ _ hfj0
         generalize bD fl (grpN N es j)=bj at *
         generalize grpN N es i=gi at *
         generalize grpN N es j=gj at *
         have hci:=cellA (.cells #[.int .i64 (i:Int),.int .i64 (j:Int)] 43) hgi
         have hcj:=cellA (.cells #[.int .i64 (i:Int),.int .i64 (j:Int)] 43) hgj
         have hcf:=cellA (.cells #[.int .i64 (i:Int),.int .i64 (j:Int)] 43) hfj
         have hgj0:(0:Int)≤(gj:Int):=by omega
         have hgj1:(gj:Int)<(N:Int):=by omega
         have HBA:Hid (Below Wk.heap.size Wk (wr.alloc (.cells #[.int .i64 (i:Int),.int .i64 (j:Int)] 43))):=zh (HBM.out.alloc hsm _)
         clear hfj0 hgi hgj hfj HBW3
         by_cases q1:gi=k
         case neg =>
          have r1:¬ (gi:Int)=(k:Int):=by omega
          have r2:decide ((gi:Int)=(k:Int))=false:=decide_eq_false r1
          have r3:((gi:Int) == (k:Int))=false:=by simpa using r1
          have r4:(gi == k)=false:=by simpa using q1
          have HP:Hid (rdyP N es fl k ((i:Int),(j:Int))=true):=zh (by rw [HPP.out,decide_eq_true q1];rfl)
          go_wp2_with fail
          go_roundw
          case rel=>exact⟨m+1,true,by omega,by go_num,rfl,zh (by rw [HT.out,HP.out,HVV.out];rfl),HBA⟩
          case measure=>simp [intOf];omega
         case pos =>
          by_cases q2:gj=k
          case pos =>
           have HP:Hid (rdyP N es fl k ((i:Int),(j:Int))=true):=zh (by rw [HPP.out,decide_eq_true q2];simp)
           subst q1
           subst q2
           go_wp2_with fail
           go_roundw
           case rel=>exact⟨m+1,true,by omega,by go_num,rfl,zh (by rw [HT.out,HP.out,HVV.out];rfl),HBA⟩
           case measure=>simp [intOf];omega
          case neg =>
           have r1:¬ (gj:Int)=(k:Int):=by omega
           have r2:decide ((gj:Int)=(k:Int))=false:=decide_eq_false r1
           have r3:((gj:Int) == (k:Int))=false:=by simpa using r1
           have r4:(gj == k)=false:=by simpa using q2
           have s1:(gi:Int)=(k:Int):=by omega
           have s2:decide ((gi:Int)=(k:Int))=true:=decide_eq_true s1
           have s3:((gi:Int) == (k:Int))=true:=by simpa using s1
           have s4:(gi == k)=true:=by simpa using q1
           have HP:Hid (rdyP N es fl k ((i:Int),(j:Int))=bj):=zh (by rw [HPP.out,decide_eq_false q2,decide_eq_false (by simpa using q1)];rfl)
           go_wp2_with fail
           go_roundw
           case rel=>exact⟨m+1,bj,by omega,by go_num,rfl,zh (by rw [HT.out,HP.out,HVV.out];rfl),HBA⟩
           case measure=>simp [intOf];omega
section
open Go.Proofs.Tryz
theorem ziz {N:Nat}{es:List (Int×Int)}{lv:Nat→Nat}(h:LevP N es lv):∀ (m c:Nat),rankG N es c≤m→c<(nodesG N es).length→lv c≤rankG N es c
 | m,c,hm,hc=>by
  rcases h.attain c hc with h0 | ⟨d,hd,h0⟩
  ·omega
  ·have h1:=zfw hd
   match m with
   | 0=>omega
   | m+1 =>
    have:=ziz h m d (by omega) (by have:=(z35 N es).1 c d hd;rwa [(z0p N es).1]at this)
    omega
theorem zlk {N:Nat}{es:List (Int×Int)}{lv:Nat→Nat}(h:LevP N es lv){c:Nat}(hc:c<(nodesG N es).length):lv c≤N:=by
 have h1:=ziz h _ c (zq _) hc
 have h2:rankG N es c≤N:=by
  unfold rankG
  have:=List.length_filter_le (fun k=>@decide (∃ n,n<N∧clG N es n=c∧Rch (sucs N es) n k) (Classical.propDecidable _)) (List.range N)
  rwa [List.length_range]at this
 omega
theorem zlg {N:Nat}{es:List (Int×Int)}{lv:Nat→Nat}(h:LevP N es lv):(levelsG N es).length≤N+1:=by
 rcases h.ln with h0 | ⟨c,hc,h0⟩
 ·omega
 ·have:=zlk h hc
  omega
def lmStep (N:Nat)(es:List (Int×Int))(L:Nat→Nat)(h:Nat)(n:Nat)(x:Int×Int):Nat:=if grpN N es x.1.toNat=h∧grpN N es x.2.toNat≠h then max n (L x.2.toNat+1) else n
def lmax (N:Nat)(es:List (Int×Int))(L:Nat→Nat)(h:Nat)(l:List (Int×Int)):Nat:=l.foldl (lmStep N es L h) 0
theorem ziw (N:Nat)(es:List (Int×Int))(L:Nat→Nat)(h k:Nat)(hk:k<es.length):lmax N es L h (es.take (k+1))=lmStep N es L h (lmax N es L h (es.take k)) es[k]:=by
 unfold lmax
 rw [zs hk,List.foldl_append]
 rfl
theorem ze2 (N:Nat)(es:List (Int×Int))(L:Nat→Nat)(h m:Nat):∀ (l:List (Int×Int))(n:Nat),n≤m→(∀ x∈l,grpN N es x.1.toNat=h→grpN N es x.2.toNat≠h→L x.2.toNat+1≤m)→l.foldl (lmStep N es L h) n≤m
 | [],_,hn,_=>hn
 | x::l,n,hn,hl=>by
  rw [List.foldl_cons]
  refine ze2 N es L h m l _ ?_ (fun y hy=>hl y (by simp [hy]))
  unfold lmStep
  split
  ·rename_i hx
   have:=hl x (by simp) hx.1 hx.2
   omega
  ·exact hn
theorem ziv (N:Nat)(es:List (Int×Int))(L:Nat→Nat)(h:Nat):∀ (l:List (Int×Int))(n:Nat),n≤l.foldl (lmStep N es L h) n∧∀ x∈l,grpN N es x.1.toNat=h→grpN N es x.2.toNat≠h→L x.2.toNat+1≤l.foldl (lmStep N es L h) n
 | [],_=>⟨zq _,fun x hx=>by simp at hx⟩
 | x::l,n=>by
  rw [List.foldl_cons]
  obtain⟨h1,h2⟩:=ziv N es L h l (lmStep N es L h n x)
  refine⟨Nat.le_trans ?_ h1,fun y hy e1 e2=>?_⟩
  ·unfold lmStep
   split<;>omega
  ·rcases List.mem_cons.1 hy with rfl | hy
   ·refine Nat.le_trans ?_ h1
    unfold lmStep
    rw [if_pos ⟨e1,e2⟩]
    omega
   ·exact h2 y hy e1 e2
theorem z7f {N:Nat}{es:List (Int×Int)}{c i j:Nat}(hc:c<(nodesG N es).length)(hi:i<N)(hj:j<N)(hx:((i:Int),(j:Int))∈es)(h1:grpN N es i=hdG N es c)(h2:grpN N es j≠hdG N es c):clG N es j∈(condG N es).getD c []:=by
 obtain⟨_,hN,hcl⟩:=z20 hc
 have hgh:grpN N es (hdG N es c)=hdG N es c:=by rw [z1z hN,hcl]
 have c1:clG N es i=c:=((z3q hi hN).1 (h1.trans hgh.symm)).trans hcl
 exact z1i.2 ⟨i,j,hi,z1v.2 ⟨hi,hj,hx⟩,c1,rfl,fun e=>h2 (by rw [z1z hj,← e])⟩
theorem zlh {N:Nat}{es:List (Int×Int)}(hv:validG N es=true){lv:Nat→Nat}(h:LevP N es lv){c:Nat}(hc:c<(nodesG N es).length):lmax N es (fun n=>lv (clG N es n)) (hdG N es c) es=lv c:=by
 refine Nat.le_antisymm (ze2 _ _ _ _ _ _ _ (Nat.zero_le _) fun x hx e1 e2=>?_) ?_
 ·have hed:=z11 hv hx
  obtain⟨x1,x2⟩:=x
  simp only at hed
  obtain⟨n,rfl⟩:∃ n:Nat,x1=(n:Int):=⟨x1.toNat,by omega⟩
  obtain⟨j,rfl⟩:∃ j:Nat,x2=(j:Int):=⟨x2.toNat,by omega⟩
  simp only [Int.toNat_natCast]at e1 e2 ⊢
  exact h.down c _ (z7f hc (by omega) (by omega) hx e1 e2)
 ·rcases h.attain c hc with h0 | ⟨d,hd,h0⟩
  ·omega
  ·obtain⟨n,j,hn,hj,hp,hdj,hne⟩:=z1i.1 hd
   obtain⟨_,hjN,hx⟩:=z1v.1 hj
   have:=(ziv N es (fun n=>lv (clG N es n)) (hdG N es c) es 0).2 _ hx (by simp only [Int.toNat_natCast];rw [z1z hn,hp]) (by
    simp only [Int.toNat_natCast]
    intro e
    obtain⟨_,hN,hcl⟩:=z20 hc
    have hgh:grpN N es (hdG N es c)=hdG N es c:=by rw [z1z hN,hcl]
    have:=((z3q hjN hN).1 (e.trans hgh.symm)).trans hcl
    exact hne (this.symm.trans hdj))
   simp only [Int.toNat_natCast]at this
   rw [hdj]at this
   unfold lmax
   omega
theorem zix {N:Nat}{es:List (Int×Int)}(hv:validG N es=true){lv:Nat→Nat}(h:LevP N es lv){c:Nat}(hc:c<(nodesG N es).length)(k:Nat):lmax N es (fun n=>lv (clG N es n)) (hdG N es c) (es.take k)≤lv c:=by
 refine ze2 _ _ _ _ _ _ _ (Nat.zero_le _) fun x hx e1 e2=>?_
 have hx:=List.mem_of_mem_take hx
 have hed:=z11 hv hx
 obtain⟨x1,x2⟩:=x
 simp only at hed
 obtain⟨n,rfl⟩:∃ n:Nat,x1=(n:Int):=⟨x1.toNat,by omega⟩
 obtain⟨j,rfl⟩:∃ j:Nat,x2=(j:Int):=⟨x2.toNat,by omega⟩
 simp only [Int.toNat_natCast]at e1 e2 ⊢
 exact h.down c _ (z7f hc (by omega) (by omega) hx e1 e2)
def LvR (N:Nat)(es:List (Int×Int))(lv:Nat→Nat)(i:Nat)(d:List Int):Prop:=d.length=N∧∀ n,n<N→clG N es n∈(listF (condG N es)).take i→gD d n=(lv (clG N es n):Int)
theorem LvR.zero (N:Nat)(es:List (Int×Int))(lv:Nat→Nat):LvR N es lv 0 (List.replicate N 0):=⟨by simp,fun n _ hm=>by simp at hm⟩
theorem zmw {N:Nat}{es:List (Int×Int)}{i:Nat}(hi:i<(compsG N es).length):∃ c,(listF (condG N es))[i]? = some c∧c<(nodesG N es).length∧(compsG N es)[i]? = some ((nodesG N es).getD c [])∧(∀ d∈(condG N es).getD c [],d∈(listF (condG N es)).take i)∧(listF (condG N es)).take (i+1)=(listF (condG N es)).take i++[c]:=by
 have hl:i<(listF (condG N es)).length:=by unfold compsG at hi;rwa [List.length_map]at hi
 have hg:(listF (condG N es))[i]? = some (listF (condG N es))[i]:=by simp [hl]
 refine⟨(listF (condG N es))[i],hg,(z0q _).1 (List.getElem_mem _),?_,(z6s N es).top i _ hg,zs hl⟩
 unfold compsG
 rw [List.getElem?_map,hg]
 rfl
def SetR (d:List Int)(row:List Nat)(k:Nat)(v:Int)(d':List Int):Prop:=d'.length=d.length∧∀ n,n<d.length→gD d' n=if n∈row.take k then v else gD d n
theorem SetR.zero (d:List Int)(row:List Nat)(v:Int):SetR d row 0 v d:=⟨rfl,fun n _=>by simp⟩
theorem SetR.step {d d':List Int}{row:List Nat}{k:Nat}{v:Int}(h:SetR d row k v d')(hk:k<row.length)(hl:row[k]<d.length):SetR d row (k+1) v (d'.set row[k] v):=by
 refine⟨by rw [List.length_set];exact h.1,fun n hn=>?_⟩
 have hmem:n∈row.take (k+1) ↔ n∈row.take k∨n=row[k]:=by rw [zs hk,List.mem_append,List.mem_singleton]
 rw [zbt _ _ _ _ (by rw [h.1];exact hl),h.2 n hn]
 by_cases e:n=row[k]
 ·rw [if_pos e,if_pos (hmem.2 (.inr e))]
 ·rw [if_neg e]
  by_cases hm:n∈row.take k
  ·rw [if_pos hm,if_pos (hmem.2 (.inl hm))]
  ·rw [if_neg hm,if_neg (fun h=>(hmem.1 h).elim hm e)]
theorem LvR.step {N:Nat}{es:List (Int×Int)}{lv:Nat→Nat}{i c:Nat}{d d':List Int}(h:LvR N es lv i d)(ht:(listF (condG N es)).take (i+1)=(listF (condG N es)).take i++[c])(hs:SetR d ((nodesG N es).getD c []) ((nodesG N es).getD c []).length (lv c:Int) d'):LvR N es lv (i+1) d':=by
 refine⟨hs.1.trans h.1,fun n hn hm=>?_⟩
 rw [hs.2 n (by rw [h.1];exact hn)]
 by_cases e:clG N es n=c
 ·rw [if_pos (by rw [List.take_length];exact z0s.2 ⟨hn,e⟩),e]
 ·rw [if_neg (fun h=>e (z0s.1 (by rwa [List.take_length]at h)).2)]
  rw [ht,List.mem_append,List.mem_singleton]at hm
  exact h.2 n hn (hm.resolve_right e)
def mostL (lv:Nat→Nat)(l:List Nat):Int:=l.foldl (fun m c=>max m (lv c:Int)) (-1)
theorem zj4 (lv:Nat→Nat) (l:List Nat) (c:Nat):mostL lv (l++[c])=max (mostL lv l) (lv c:Int):=by
 unfold mostL
 rw [List.foldl_append]
 rfl
theorem z7w (lv:Nat→Nat):∀ (l:List Nat)(m:Int),m≤l.foldl (fun m c=>max m (lv c:Int)) m∧(∀ c∈l,(lv c:Int)≤l.foldl (fun m c=>max m (lv c:Int)) m)∧(l.foldl (fun m c=>max m (lv c:Int)) m=m∨∃ c∈l,l.foldl (fun m c=>max m (lv c:Int)) m=(lv c:Int))
 | [],m=>⟨Int.le_refl _,fun c hc=>by simp at hc,.inl rfl⟩
 | x::l,m=>by
  rw [List.foldl_cons]
  obtain⟨h1,h2,h3⟩:=z7w lv l (max m (lv x:Int))
  refine⟨by omega,fun c hc=>?_,?_⟩
  ·rcases List.mem_cons.1 hc with rfl | hc
   ·omega
   ·exact h2 c hc
  ·rcases h3 with h3 | ⟨c,hc,h3⟩
   ·by_cases e:m≤(lv x:Int)
    ·exact .inr ⟨x,by simp,by rw [h3];omega⟩
    ·exact .inl (by rw [h3];omega)
   ·exact .inr ⟨c,by simp [hc],h3⟩
theorem zj3 {N:Nat} {es:List (Int×Int)} {lv:Nat→Nat} (h:LevP N es lv):mostL lv (listF (condG N es))+1=((levelsG N es).length:Int):=by
 obtain⟨h1,h2,h3⟩:=z7w lv (listF (condG N es)) (-1)
 have hup:mostL lv (listF (condG N es))+1≤((levelsG N es).length:Int):=by
  unfold mostL
  rcases h3 with h3 | ⟨c,hc,h3⟩
  ·omega
  ·have:=h.lt c ((z0q c).1 hc)
   omega
 rcases h.ln with h0 | ⟨c,hc,h0⟩
 ·unfold mostL at hup ⊢;omega
 ·have:=h2 c ((z0q c).2 hc)
  unfold mostL at hup ⊢
  omega
theorem ze8 {N:Nat} {es:List (Int×Int)} {lv:Nat→Nat} (h:LevP N es lv) (i:Nat):-1≤mostL lv ((listF (condG N es)).take i)∧mostL lv ((listF (condG N es)).take i)≤N:=by
 obtain⟨h1,h2,h3⟩:=z7w lv ((listF (condG N es)).take i) (-1)
 refine⟨h1,?_⟩
 unfold mostL
 rcases h3 with h3 | ⟨c,hc,h3⟩
 ·omega
 ·have:=zlk h ((z0q c).1 (List.mem_of_mem_take hc))
  omega
theorem zit {N:Nat}{es:List (Int×Int)}{lv:Nat→Nat}(h:LevP N es lv){d:List Int}(hd:∀ n,n<N→gD d n=(lv (clG N es n):Int))(k:Nat):(levelsG N es).getD k []=(List.range N).filter fun n=>gD d n == (k:Int):=by
 refine zd5 (h.srt k) (List.Pairwise.filter _ List.pairwise_lt_range) fun n=>?_
 rw [h.mem,List.mem_filter,List.mem_range,beq_iff_eq]
 constructor
 ·rintro⟨h1,h2⟩
  exact⟨h1,by rw [hd n h1,h2]⟩
 ·rintro⟨h1,h2⟩
  rw [hd n h1]at h2
  exact⟨h1,by omega⟩
theorem LvR.all {N:Nat}{es:List (Int×Int)}{lv:Nat→Nat}{d:List Int}(h:LvR N es lv (compsG N es).length d)(n:Nat)(hn:n<N):gD d n=(lv (clG N es n):Int):=by
 refine h.2 n hn ?_
 have e:(compsG N es).length=(listF (condG N es)).length:=by unfold compsG;rw [List.length_map]
 rw [e,List.take_length]
 exact(z0q _).2 (z1h hn)
end
theorem zln (a b:Nat):max (a:Int) ((b:Int)+1)=((max a (b+1):Nat):Int):=by omega
structure LevJ (N:Nat)(es:List (Int×Int))(B:Nat)(w0 W:World)(l1 l3 l4 l5:Bool)(s3 s4 s20 s22:Value):Prop where
 bel:Below B w0 W
 hB:B≤W.heap.size
 m1:l1=true→RowOf natC W.heap.size s20 ((List.range N).map (grpN N es)) W
 m3:l3=true→RowsOf W.heap.size s22 (compsG N es) W
 m4:l4=true→l1=true∧s3=s20
 m5:l5=true→l3=true∧s4=s22
theorem LevJ.keep {N:Nat}{es:List (Int×Int)}{B:Nat}{w0 W W':World}{l1 l3 l4 l5:Bool}{s3 s4 s20 s22:Value}(h:LevJ N es B w0 W l1 l3 l4 l5 s3 s4 s20 s22)(hb:Below W.heap.size W W'):LevJ N es B w0 W' l1 l3 l4 l5 s3 s4 s20 s22 :=
 ⟨h.bel.trans (hb.mono h.hB),Nat.le_trans h.hB hb.size,fun hl=>((h.m1 hl).below hb (zq _)).mono hb.size,fun hl=>((h.m3 hl).below hb (zq _)).mono hb.size,h.m4,h.m5⟩
theorem zeg (a:Option Addr)(ns:List ByteArray)(N c:Nat)(ev:Value)(es:List (Int×Int))(w:World)(hNN:N=ns.length)(hE:EdgesOf w.heap.size ev es w)(hR:RowOf Value.string w.heap.size (.slice a N c) ns w)(hval:validG N es=true) :
  Calls prog 36 #[.agg #[.slice a N c,ev]] w fun e w'=>∃ v,e=.returned v∧RowsOf w'.heap.size v (levelsG N es) w'∧Below w.heap.size w w':=by
 obtain⟨hNn,hNe⟩:=z1x hval
 have hb1:Below w.heap.size w (w.alloc (.cells #[.slice a N c,ev] 32)):=z0h _ _
 have hv:=z4p a N c ev es _ (by omega) (by omega) ((hE.below hb1 (zq _)).mono hb1.size)
 rw [hval]at hv
 have hE0:=hE
 obtain⟨ao,ec,rfl,hE2⟩:=hE
 have HGOLD:=zh (zn w (.cells #[.slice a N c,.slice ao es.length ec] 32))
 have HVC:=zh hv
 have HV:=zh hval
 have HB1:=zh hb1
 have HE:=zh hE2
 have HE0:=zh hE0
 have HR:=zh hR
 have HNN:=zh hNN
 obtain⟨j0,hj0',hy0,hy1,hy2⟩:=info_parts z16
 obtain⟨i1,hi1',hz0,hz1,hz2⟩:=info_parts z2s
 obtain⟨lv,hlv⟩:=z7q N es
 have HLV:=zh hlv
 clear hv hb1 hE2 hE0 hR hval hNN hlv
 go_enter func36,ntmps36
 go_wp2_with fail
 refine HVC.out.mono ?_
 rintro e w1 ⟨rfl,hb⟩
 have hs1:=hb.size
 simp only [World.size_alloc]at hs1
 have HG1:=zh ((hb.block w.heap.size (by simp)).trans HGOLD.out)
 have HW1:=zh (HB1.out.trans (hb.mono (by simp)))
 have hg0:w1.cell? ⟨w.heap.size,0,none⟩=some (.slice a N c):=zw _ _ 0 _ _ _ HG1.out
 have hg1:w1.cell? ⟨w.heap.size,1,none⟩=some (.slice ao es.length ec):=zw _ _ 1 _ _ _ HG1.out
 have hgl:w.heap.size<w1.heap.size:=by omega
 clear hb HVC HB1 HGOLD
 go_wp2_with fail
 refine z3b (S:=HeldC ⟨w.heap.size,0,none⟩ ⟨w.heap.size,1,none⟩ (.slice a N c) (.slice ao es.length ec)) (by kernel_rfl) ?_
 have hSd:HeldC ⟨w.heap.size,0,none⟩ ⟨w.heap.size,1,none⟩ (.slice a N c) (.slice ao es.length ec) w1.drew:=⟨hg0,hg1⟩
 refine zt 0 _ rfl ?_;simp only [zl1];refine zt 2 _ rfl ?_;simp only [zl1]
 have HSW:Hid (∀ W':World,Below w1.heap.size w1 W'→HeldC ⟨w.heap.size,0,none⟩ ⟨w.heap.size,1,none⟩ (.slice a N c) (.slice ao es.length ec) W'):=zh fun W' h=>⟨zw _ _ 0 _ _ _ ((h.block _ hgl).trans HG1.out),zw _ _ 1 _ _ _ ((h.block _ hgl).trans HG1.out)⟩
 have HEV:Hid (∀ V:World,Below w1.heap.size w1 V→EdgesOf V.heap.size (.slice ao es.length ec) es V):=zh fun V h=>(HE0.out.below (HW1.out.trans (h.mono (by omega))) (zq _)).mono (by have:=h.size;omega)
 have HRV:Hid (∀ V:World,Below w1.heap.size w1 V→RowOf Value.string V.heap.size (.slice a N c) ns V):=zh fun V h=>(HR.out.below (HW1.out.trans (h.mono (by omega))) (zq _)).mono (by have:=h.size;omega)
 refine z4j (fun listed a' W=>∃ (l1 l3 l4 l5:Bool) (s3 s4 s20 s22:Value),listed=#[true,l1,true,l3,l4,l5]∧a'={ tmps:=#[.agg #[.slice a N c,.slice ao es.length ec],.pointer (some ⟨w.heap.size,0,none⟩),.slice none 0 0,s3,s4,undef,undef,undef,undef,undef,undef,undef,undef,undef,undef,undef,.agg #[.slice a N c,.slice ao es.length ec],.bool true,.bool false,.agg #[.slice a N c,.slice ao es.length ec],s20,.agg #[.slice a N c,.slice ao es.length ec],s22,undef,undef,undef,undef,undef,undef,undef,undef,undef,undef,undef,undef,undef,undef,undef,undef,undef,undef,undef,undef,undef,undef,undef,undef,undef,undef,undef,undef,undef,undef,undef,undef,undef,undef,undef,undef,undef,undef,undef,undef,undef,undef,undef,undef,undef,undef,undef,undef,undef,undef,undef,undef,undef,undef,undef,undef,undef,undef,undef,undef,undef,undef,undef,undef,undef,undef,undef,undef,undef,undef,undef,undef,undef,undef,undef,undef,undef,undef,undef,undef,undef,undef,undef,undef,undef,undef,undef,undef,undef,undef,undef,undef,undef,undef,undef,undef,undef,undef,undef,undef,undef,undef,undef,undef,undef,undef],defers:=[] }∧LevJ N es w1.heap.size w1 W l1 l3 l4 l5 s3 s4 s20 s22) ?step ?fin _ _ _ _ (by decide) ?start
 case start=>exact⟨false,false,false,false,_,_,_,_,rfl,rfl,⟨(Below.refl _ _).drew,zq _,fun h=>(by cases h),fun h=>(by cases h),fun h=>(by cases h),fun h=>(by cases h)⟩⟩
 case step =>
  rintro listed a' W x ⟨l1,l3,l4,l5,s3,s4,s20,s22,rfl,rfl,hJ⟩ hx
  obtain⟨h1,h2,h3⟩:=z2x hx
  have hx6:x<6:=h1
  have hx:x=0∨x=1∨x=2∨x=3∨x=4∨x=5:=by omega
  clear h1 hx6
  rcases hx with rfl | rfl | rfl | rfl | rfl | rfl
  ·cases h2
  ·obtain rfl:l1=false:=h2
   refine z0o rfl (fun K hK=>?_)
   have HCON:=zh (z94 a ns N c (.slice ao es.length ec) es W HNN.out (HEV.out W hJ.bel) (HRV.out W hJ.bel) HV.out)
   have HJ:=zh hJ
   clear h3 hJ
   go_simp
   refine HCON.out.mono ?_
   rintro e W' ⟨v,rfl,hr,hb⟩
   have k:=HJ.out.keep hb
   exact hK.out _ _ ⟨HSW.out _ k.bel,true,l3,l4,l5,_,_,_,_,rfl,rfl,⟨k.bel,k.hB,fun _=>(z1q hr).2,k.m3,fun hl=>absurd (k.m4 hl).1 (by decide),k.m5⟩⟩
  ·cases h2
  ·obtain rfl:l3=false:=h2
   refine z0o rfl (fun K hK=>?_)
   have HCON:=zh (z3v a ns N c (.slice ao es.length ec) es W HNN.out (HEV.out W hJ.bel) (HRV.out W hJ.bel) HV.out)
   have HJ:=zh hJ
   clear h3 hJ
   go_simp
   refine HCON.out.mono ?_
   rintro e W' ⟨v,rfl,hr,hb⟩
   have k:=HJ.out.keep hb
   exact hK.out _ _ ⟨HSW.out _ k.bel,l1,true,l4,l5,_,_,_,_,rfl,rfl,⟨k.bel,k.hB,k.m1,fun _=>hr,k.m4,fun hl=>absurd (k.m5 hl).1 (by decide)⟩⟩
  ·obtain rfl:l4=false:=h2
   obtain⟨rfl,rfl⟩:l1=true∧l3=true:=by
    cases l1<;>cases l3<;>cases l5<;>first | exact⟨rfl,rfl⟩ | exact Bool.noConfusion (h3.symm.trans (by kernel_rfl:_=false))
   refine z0o rfl (fun K hK=>?_)
   have k:=hJ
   clear h3 hJ
   go_simp
   exact hK.out _ _ ⟨HSW.out _ k.bel,true,true,true,l5,_,_,_,_,rfl,rfl,⟨k.bel,k.hB,k.m1,k.m3,fun _=>⟨rfl,rfl⟩,k.m5⟩⟩
  ·obtain rfl:l5=false:=h2
   obtain⟨rfl,rfl⟩:l1=true∧l3=true:=by
    cases l1<;>cases l3<;>cases l4<;>first | exact⟨rfl,rfl⟩ | exact Bool.noConfusion (h3.symm.trans (by kernel_rfl:_=false))
   refine z0o rfl (fun K hK=>?_)
   have k:=hJ
   clear h3 hJ
   go_simp
   exact hK.out _ _ ⟨HSW.out _ k.bel,true,true,l4,true,_,_,_,_,rfl,rfl,⟨k.bel,k.hB,k.m1,k.m3,k.m4,fun _=>⟨rfl,rfl⟩⟩⟩
 case fin =>
  rintro listed a' W ⟨l1,l3,l4,l5,s3,s4,s20,s22,rfl,rfl,hJ⟩ hr
  have q1:=z0j hr 1 (by kernel_rfl)
  obtain rfl:l1=true:=q1
  have q3:=z0j hr 3 (by kernel_rfl)
  obtain rfl:l3=true:=q3
  have q4:=z0j hr 4 (by kernel_rfl)
  obtain rfl:l4=true:=q4
  have q5:=z0j hr 5 (by kernel_rfl)
  obtain rfl:l5=true:=q5
  obtain⟨_,e4⟩:=hJ.m4 rfl
  obtain⟨_,e5⟩:=hJ.m5 rfl
  subst e4
  subst e5
  have hgr:=hJ.m1 rfl
  have HRO:=zh (hJ.m3 rfl)
  have hbW:=hJ.bel
  have hsW:=hJ.hB
  have HBW:=zh (HW1.out.trans (hbW.mono (by omega)))
  have HGW:=zh ((hbW.block _ hgl).trans HG1.out)
  obtain⟨ga,gc,hgv,_⟩:=z02 hgr
  rw [List.length_map,List.length_range]at hgv
  subst hgv
  obtain⟨oa,oc,hov⟩:=zh9 HRO.out
  subst hov
  have HGR:Hid (∀ i,i<N→∃ b off,ga=some ⟨b,off,none⟩∧b<W.heap.size∧W.cell? ⟨b,off+i,none⟩=some (.int .i64 (grpN N es i:Int))):=zh (fun i hi=>by
   rcases hgr with ⟨h,_⟩ | ⟨b,off,cap,e,hb,h⟩
   ·have:=congrArg List.length h;simp at this;omega
   ·obtain⟨e1,_,_⟩:=Value.slice.inj e
    exact⟨b,off,e1,hb,h i _ (by rw [List.getElem?_map,List.getElem?_range hi];rfl)⟩)
  have hmk:=z58 N (by omega) W
  obtain⟨W5,hW5⟩:∃ V,V=W.alloc (.cells (Array.replicate N (.int .i64 0)) 3):=⟨_,rfl⟩
  have hs5:W5.heap.size=W.heap.size+1:=by rw [hW5];simp
  have HB5:Hid (Below W.heap.size W W5):=zh (by rw [hW5];exact z0h _ _)
  have HI5:Hid (Ints W5 W.heap.size (List.replicate N 0)):=zh (by
   rw [hW5]
   exact(zn W _).trans (by simp))
  have hgN:W.cell? ⟨w.heap.size,0,none⟩=some (.slice a N c):=zw _ _ 0 _ _ _ HGW.out
  have HLZ:=zh (LvR.zero N es lv)
  have hcl:(compsG N es).length≤N:=by rw [z4x];exact(z2u (numbered N es)).1
  clear hJ hr hgr hbW hg0 hg1 HSW HEV HRV
  refine NoPanic.normal ?_
  go_wp2_with fail
  rw [← hW5]
  clear hmk hgN hW5
  go_loopw [6,7] (fun p q wr=>∃ (i:Nat) (d:List Int),i≤(compsG N es).length∧q=.int .i64 i∧p=.int .i64 (mostL lv ((listF (condG N es)).take i))∧Hid (LvR N es lv i d)∧Hid (Ints wr W.heap.size d)∧Hid (Below W.heap.size W wr)) (fun _ q _=>(compsG N es).length - (intOf q).toNat)
  case atStart=>exact⟨0,_,by omega,rfl,rfl,HLZ,HI5,HB5⟩
  case round =>
   clear HLZ HI5 HB5
   obtain⟨i,d,hi,rfl,rfl,HL,HI,HB⟩:=hrel
   have hsr:=HB.out.size
   have hIl:W.heap.size<wr.heap.size:=(zb HI.out)
   have hdl:=HL.out.1
   obtain⟨hm0,hm1⟩:=ze8 HLV.out i
   obtain⟨mo,hmo⟩:∃ mo,mo=mostL lv ((listF (condG N es)).take i):=⟨_,rfl⟩
   have HMO:=zh hmo
   rw [← hmo]at hm0 hm1 ⊢
   clear hmo
   by_cases hlt:i<(compsG N es).length
   case neg =>
    have hii:i=(compsG N es).length:=by omega
    have HD:Hid (∀ n,n<N→gD d n=(lv (clG N es n):Int)):=zh (LvR.all (by have:=HL.out;rwa [hii]at this))
    have hTN:=zlg HLV.out
    obtain⟨T,hT⟩:∃ T,T=(levelsG N es).length:=⟨_,rfl⟩
    have hmT:mo+1=(T:Int):=by
     have e:(compsG N es).length=(listF (condG N es)).length:=by unfold compsG;rw [List.length_map]
     rw [HMO.out,hii,e,List.take_length,hT]
     exact zj3 HLV.out
    have HTT:=zh hT
    have HMT:=zh hmT
    rw [← hT]at hTN
    have hi1:¬ (i:Int)<((compsG N es).length:Int):=by omega
    have hi2:decide ((i:Int)<((compsG N es).length:Int))=false:=decide_eq_false hi1
    have HROWK:Hid (∀ k,(levelsG N es).getD k []=(List.range N).filter fun n=>gD d n == (k:Int)):=zh (fun k=>zit HLV.out HD.out k)
    obtain⟨Wo,hWo⟩:∃ V:World,V=wr:=⟨_,rfl⟩
    subst hWo
    have HO0:Hid (Rowed Wo.heap.size (.slice (some ⟨Wo.heap.size,0,none⟩) 0 0) [] [] (Wo.alloc (.cells #[] 109))):=zh ⟨z2j Wo.heap.size 109 0 [] Wo (zq _) (by decide) rfl,fun i u l hu=>by simp at hu⟩
    have HBO0:Hid (Below Wo.heap.size Wo (Wo.alloc (.cells #[] 109))):=zh (z0h _ _)
    clear hii hT hmT
    go_wp2_with fail
    clear hi1 hi2
    go_loopw [12,13] (fun o q wr=>∃ (k:Nat) (vs:List Value),k≤T∧q=.int .i64 k∧Hid (Rowed Wo.heap.size o vs ((levelsG N es).take k) wr)∧Hid (Below Wo.heap.size Wo wr)) (fun _ q _=>T - (intOf q).toNat)
    case atStart=>exact⟨0,[],by omega,rfl,HO0,HBO0⟩
    case round =>
     clear HO0 HBO0
     obtain⟨k,vs,hk,rfl,HO,HBO⟩:=hrel
     have hso:=HBO.out.size
     have htop:=HO.out.top
     have hlt':((levelsG N es).take k).length=k:=by rw [List.length_take,← HTT.out];omega
     rw [hlt']at htop
     obtain⟨oa2,oc2,hov2⟩:=z09 htop
     subst hov2
     clear htop hlt'
     by_cases hlt2:k<T
     case neg =>
      have hkT:k=T:=by omega
      have HE4:Hid ((levelsG N es).take k=levelsG N es):=zh (by rw [hkT,HTT.out,List.take_length])
      have r1:¬ (k:Int)≤mo:=by have:=HMT.out;omega
      have r2:decide ((k:Int)≤mo)=false:=decide_eq_false r1
      clear hkT
      go_wp2_with fail
      go_ret
      exact⟨_,rfl,by rw [← HE4.out];exact HO.out.rows,HBW.out.trans ((HB.out.trans (HBO.out.mono (by omega))).mono (by omega))⟩
     case pos =>
      have r1:(k:Int)≤mo:=by have:=HMT.out;omega
      have r2:decide ((k:Int)≤mo)=true:=decide_eq_true r1
      have HTK:Hid ((levelsG N es).take (k+1)=(levelsG N es).take k++[(List.range N).filter fun n=>gD d n == (k:Int)]):=zh (by
       have h:k<(levelsG N es).length:=by rw [← HTT.out];exact hlt2
       have e:=HROWK.out k
       rw [zg,ze h]at e
       have e:(levelsG N es)[k]=_:=e
       rw [zs h,e])
      obtain⟨W6,hW6⟩:∃ V:World,V=wr:=⟨_,rfl⟩
      subst hW6
      have HC0:Hid ((W6.alloc (.cells #[] 3)).ownsRow W6.heap.size 3 1 (.slice (some ⟨W6.heap.size,0,none⟩) 0 0) 0 []):=zh (z2j W6.heap.size 3 0 [] W6 (zq _) (by decide) rfl)
      have HCB:Hid (Below W6.heap.size W6 (W6.alloc (.cells #[] 3))):=zh (z0h _ _)
      go_wp2_with fail
      clear r1 r2
      go_loopw [14,15] (fun cv q wr=>∃ m:Nat,m≤N∧q=.int .i64 m∧Hid (wr.ownsRow W6.heap.size 3 1 cv ((List.range m).filter fun n=>gD d n == (k:Int)).length (((List.range m).filter fun n=>gD d n == (k:Int)).map natC))∧Hid (Below W6.heap.size W6 wr)) (fun _ q _=>N - (intOf q).toNat)
      case atStart=>exact⟨0,by omega,rfl,HC0,HCB⟩
      case round =>
       clear HC0 HCB
       obtain⟨m,hm,rfl,HC,HBC⟩:=hrel
       have hsc:=HBC.out.size
       obtain⟨ca,cc,rfl⟩:=z09 HC.out
       have hfl2:((List.range m).filter fun n=>gD d n == (k:Int)).length≤m:=by
        have:=List.length_filter_le (fun n=>gD d n == (k:Int)) (List.range m)
        rwa [List.length_range]at this
       have HIV:Hid (Ints wr W.heap.size d):=zh ((HBC.out.block _ (by omega)).trans ((HBO.out.block _ hIl).trans HI.out))
       by_cases hlt3:m<N
       case pos =>
        have hm0':(0:Int)≤(m:Int):=by omega
        have hm1':(m:Int)<(N:Int):=by omega
        have hdm0:d[m]? = some (gD d m):=by
         unfold gD
         rw [zg,ze (by omega)]
         rfl
        have hdm:=HIV.out.cell m _ hdm0
        have HT:Hid ((List.range (m+1)).filter (fun n=>gD d n == (k:Int))=(List.range m).filter (fun n=>gD d n == (k:Int))++if (gD d m == (k:Int))=true then [m] else []):=zh (by rw [List.range_succ,List.filter_append];congr 1;rw [List.filter_cons];rfl)
        obtain⟨gm,hgm⟩:∃ gm,gm=gD d m:=⟨_,rfl⟩
        rw [← hgm]at hdm HT
        clear hgm hdm0
        by_cases hq2:gm=(k:Int)
        case pos =>
         rw [if_pos (by simpa using hq2)]at HT
         have r2:decide (gm=(k:Int))=true:=decide_eq_true hq2
         have r3:(gm == (k:Int))=true:=by simpa using hq2
         clear hq2
         go_wp2_with (at_builtin;refine wpList_append_own _ rfl _ _ 109 rfl W6.heap.size 3 j0 (.int .i64 0) 1 8 underlying109 hj0' hy0 hy1 hy2 rfl (by decide) _ _ _ (by rfl) (HC.out.alloc _) ⟨wr.heap.size,0,none⟩ 1 1 [natC m] (by rfl) (by rfl) (World.news_of_block (cs:=#[natC m]) (t:=3) (fr:=(0,0)) (heap_alloc_new wr _)) (by simp [Value.oneCell']) (by unfold maxLen;omega) (by omega) (by simp;omega) ?_;intro v' w5 hown' hgrow _)
         go_roundw
         case rel=>exact⟨m+1,by omega,by go_num,zh (by rw [HT.out,List.length_append,List.map_append];exact hown'),zh ((HBC.out.alloc hsc _).grown hgrow (by simp;omega) (fun b hb=>(HC.out.lt b hb).1))⟩
         case measure=>simp [intOf];omega
        case neg =>
         have r2:decide (gm=(k:Int))=false:=decide_eq_false hq2
         have r3:(gm == (k:Int))=false:=by simpa using hq2
         rw [if_neg (by simpa using hq2),List.append_nil]at HT
         go_wp2_with fail
         go_roundw
         case rel=>exact⟨m+1,by omega,by go_num,zh (by rw [HT.out];exact HC.out),HBC⟩
         case measure=>simp [intOf];omega
       case neg =>
        have hmN:m=N:=by omega
        have hce:=HC.out
        rw [hmN]at hce
        have HCW:Hid (wr.ownsRow Wo.heap.size 3 1 (.slice ca ((List.range m).filter fun n=>gD d n == (k:Int)).length cc) ((List.range N).filter fun n=>gD d n == (k:Int)).length (((List.range N).filter fun n=>gD d n == (k:Int)).map natC)):=zh (by
         rw [hmN]
         exact⟨hce.1,hce.2.imp id fun⟨g,cap,cur,h1,h2,h3⟩=>⟨g,cap,cur,h1,by omega,h3⟩⟩)
        have HOV:=zh (HO.out.far (W':=wr) (fun b _ hb=>HBC.out.block b hb))
        have htv:=HOV.out.top
        have hltk:((levelsG N es).take k).length=k:=by rw [List.length_take,← HTT.out];omega
        rw [hltk]at htv
        have HTV:=zh htv
        have HLT:=zh hltk
        have HBV:Hid (Below Wo.heap.size Wo wr):=zh (HBO.out.trans (HBC.out.mono (by omega)))
        have hk1024:k≤1025:=by omega
        have hm1:¬ (m:Int)<(N:Int):=by omega
        have hm2:decide ((m:Int)<(N:Int))=false:=decide_eq_false hm1
        generalize ((List.range m).filter fun n=>gD d n == (k:Int)).length=cl at *
        clear hce htv hltk hmN
        go_wp2_with (at_builtin;refine wpList_append_own _ rfl _ _ 73 rfl Wo.heap.size 109 i1 (.slice none 0 0) 1 24 underlying73 hi1' hz0 hz1 hz2 rfl (by decide) _ k vs (by rfl) (HTV.out.alloc _) ⟨wr.heap.size,0,none⟩ 1 1 [.slice ca cl cc] (by rfl) (by rfl) (World.news_of_block (cs:=#[.slice ca cl cc]) (t:=109) (fr:=(0,0)) (heap_alloc_new wr _)) (by simp [Value.oneCell']) (by unfold maxLen;omega) (by omega) (by simp;omega) ?_;intro v' w5 hown' hgrow _;have HOW5:=zh hown';have HGR5:=zh hgrow;clear hown' hgrow;obtain⟨a5,c5,rfl⟩:=z09 HOW5.out)
        go_roundw
        case rel =>
         refine⟨k+1,vs++[.slice ca cl cc],by omega,by go_num,zh ?_,zh ?_⟩
         ·rw [HTK.out]
          have hal:=HOV.out.far (W':=wr.alloc (.cells #[.slice ca cl cc] 109)) (fun b _ hb=>Below.heap_alloc _ _ _ hb)
          exact hal.push (HCW.out.alloc _) HGR5.out (by rw [HLT.out];exact HOW5.out)
         ·exact(HBV.out.alloc (by omega) _).grown HGR5.out (by simp;omega) (fun b hb=>by have:=(HTV.out.lt b hb).1;omega)
        case measure=>simp [intOf];omega
   case pos =>
    have hi0:(0:Int)≤(i:Int):=by omega
    have hi1:(i:Int)<((compsG N es).length:Int):=by omega
    obtain⟨cc,hcc,hcM,hrow,hcond,htake⟩:=zmw hlt
    obtain⟨row,hrw⟩:∃ row,row=(nodesG N es).getD cc []:=⟨_,rfl⟩
    rw [← hrw]at hrow
    have hrd:(compsG N es).getD i []=row:=by rw [zg,hrow];rfl
    obtain⟨hhd,hhN,_⟩:=z20 hcM
    rw [← hrw]at hhd
    obtain⟨b,off,cap,hta,hbl,r,hcr,hrr⟩:=zno HRO.out i hlt
    cases hta
    rw [hrd]at hrr
    have hrn:∀ x∈row,x<N:=fun x hx=>by rw [hrw]at hx;exact(z0s.1 hx).1
    have hrl:row.length≤N:=by
     rw [hrw,z3a]
     have:=List.length_filter_le (fun k=>clG N es k == cc) (List.range N)
     rwa [List.length_range]at this
    have hrp:0<row.length:=by
     cases row with
     | nil=>simp at hhd
     | cons x l=>simp
    have h0r:row[0]? = some (hdG N es cc):=by rw [← List.head?_eq_getElem?];exact hhd
    obtain⟨rb,ro,rc,hr,hrbl,hrc⟩:∃ rb ro rc,r=.slice (some ⟨rb,ro,none⟩) row.length rc∧rb<W.heap.size∧∀ j x,row[j]? = some x→W.cell? ⟨rb,ro+j,none⟩=some (natC x):=by
     rcases hrr with ⟨h,_⟩ | ⟨rb,ro,rc,h1,h2,h3⟩
     ·rw [h]at hrp;simp at hrp
     ·exact⟨rb,ro,rc,h1,h2,h3⟩
    subst hr
    have HROW:=zh hrw
    have HCOND:=zh hcond
    have HTAKE:=zh htake
    have HRC:Hid (∀ V:World,Below W.heap.size W V→V.cell? ⟨b,off+i,none⟩=some (.slice (some ⟨rb,ro,none⟩) row.length rc)∧∀ j x,row[j]? = some x→V.cell? ⟨rb,ro+j,none⟩=some (natC x)):=zh fun V hV=>⟨(hV.cell (p:=⟨b,off+i,none⟩) hbl).trans hcr,fun j x hx=>(hV.cell (p:=⟨rb,ro+j,none⟩) hrbl).trans (hrc j x hx)⟩
    obtain⟨hd,hhdv⟩:∃ hd,hd=hdG N es cc:=⟨_,rfl⟩
    rw [← hhdv]at h0r hhN
    have HHD:=zh hhdv
    have HCC:=zh hcc
    have HRN:=zh hrn
    have H0R:=zh h0r
    have hlvN:=zlk HLV.out hcM
    obtain⟨lc,hlc⟩:∃ lc,lc=lv cc:=⟨_,rfl⟩
    have HLC:=zh hlc
    rw [← hlc]at hlvN
    have HLM:Hid (∀ k,lmax N es (fun n=>lv (clG N es n)) hd (es.take k)≤lc):=zh (fun k=>by rw [hhdv,hlc];exact zix HV.out HLV.out hcM k)
    have HLE:Hid (lmax N es (fun n=>lv (clG N es n)) hd es=lc):=zh (by rw [hhdv,hlc];exact zlh HV.out HLV.out hcM)
    obtain⟨Wo,hWo⟩:∃ V:World,V=wr:=⟨_,rfl⟩
    subst hWo
    clear hcc hcond htake hrow hrw hrd hhd hcr hrr hrc hhdv hrn h0r hlc
    go_wp2_with fail
    go_loopw [8,9] (fun p q wr=>∃ k:Nat,k≤es.length∧q=.int .i64 k∧p=.int .i64 (lmax N es (fun n=>lv (clG N es n)) hd (es.take k):Int)∧Hid (Below Wo.heap.size Wo wr)) (fun _ q _=>es.length - (intOf q).toNat)
    case atStart=>exact⟨0,by omega,rfl,rfl,zh (Below.refl _ _)⟩
    case round =>
     obtain⟨k,hk,rfl,rfl,HBK⟩:=hrel
     have hsk:=HBK.out.size
     have HBX:Hid (Below W.heap.size W wr):=zh (HB.out.trans (HBK.out.mono (by omega)))
     have hg1:wr.cell? ⟨w.heap.size,1,none⟩=some (.slice ao es.length ec):=zw _ _ 1 _ _ _ ((HBX.out.block _ (by omega)).trans HGW.out)
     have HIX:Hid (Ints wr W.heap.size d):=zh ((HBK.out.block _ hIl).trans HI.out)
     by_cases hlt2:k<es.length
     case pos =>
      have hk0:(0:Int)≤(k:Int):=by omega
      have hk1:(k:Int)<(es.length:Int):=by omega
      have HBW0:Hid (Below w.heap.size w wr):=zh (HBW.out.trans (HBX.out.mono (by omega)))
      obtain⟨eb,eo,hao,heb,hc1,hc2⟩:=HE.out k es[k] (by simp [hlt2])
      subst hao
      have hc1:=(HBW0.out.cell (p:=⟨eb,eo+k*2,none⟩) heb).trans hc1
      have hc2:=(HBW0.out.cell (p:=⟨eb,eo+k*2+1,none⟩) heb).trans hc2
      have hxm:es[k]∈es:=List.getElem_mem hlt2
      have hed:=z11 HV.out hxm
      have HT:=zh (ziw N es (fun n=>lv (clG N es n)) hd k hlt2)
      have hbnd:=HLM.out k
      have hbnd2:=HLM.out (k+1)
      obtain⟨⟨x1,x2⟩,hx⟩:∃ x,x=es[k]:=⟨_,rfl⟩
      rw [← hx]at hc1 hc2 hed HT hxm
      clear hx
      obtain⟨i',rfl⟩:∃ i:Nat,x1=(i:Int):=⟨x1.toNat,by simp at hed;omega⟩
      obtain⟨j,rfl⟩:∃ j:Nat,x2=(j:Int):=⟨x2.toNat,by simp at hed;omega⟩
      simp only at hc1 hc2 hed
      obtain⟨hi0',hi1',hj0,hj1⟩:=hed
      have hiN:i'<N:=by omega
      have hjN:j<N:=by omega
      obtain⟨gb,go,hge,hgb,hgi⟩:=HGR.out i' hiN
      subst hge
      obtain⟨gb3,go3,hge,_,hgj⟩:=HGR.out j hjN
      cases hge
      have hgi:=(HBX.out.cell (p:=⟨gb,go+i',none⟩) hgb).trans hgi
      have hgj:=(HBX.out.cell (p:=⟨gb,go+j,none⟩) hgb).trans hgj
      have hor:=(HRC.out wr HBX.out).1
      have hoh:=(HRC.out wr HBX.out).2 0 hd H0R.out
      rw [Nat.add_zero]at hoh
      have hdj0:d[j]? = some (gD d j):=by
       unfold gD
       rw [zg,ze (by omega)]
       rfl
      have hdj:=HIX.out.cell j _ hdj0
      have HSTP:Hid (lmStep N es (fun n=>lv (clG N es n)) hd (lmax N es (fun n=>lv (clG N es n)) hd (es.take k)) ((i':Int),(j:Int))=if grpN N es i'=hd∧grpN N es j≠hd then max (lmax N es (fun n=>lv (clG N es n)) hd (es.take k)) (lv (clG N es j)+1) else lmax N es (fun n=>lv (clG N es n)) hd (es.take k)):=zh (by unfold lmStep;simp only [Int.toNat_natCast])
      have HED:Hid (grpN N es i'=hd→grpN N es j≠hd→gD d j=(lv (clG N es j):Int)∧lv (clG N es j)≤N):=zh (fun e1 e2=>by
       have hm:=z7f hcM hiN hjN hxm (by rw [← HHD.out];exact e1) (by rw [← HHD.out];exact e2)
       exact⟨HL.out.2 j hjN (HCOND.out _ hm),zlk HLV.out (z1h hjN)⟩)
      have HBA:Hid (Below Wo.heap.size Wo (wr.alloc (.cells #[.int .i64 (i':Int),.int .i64 (j:Int)] 43))):=zh (HBK.out.alloc hsk _)
      rw [HT.out,HSTP.out]at hbnd2
      have HT2:Hid (lmax N es (fun n=>lv (clG N es n)) hd (es.take (k+1))=if grpN N es i'=hd∧grpN N es j≠hd then max (lmax N es (fun n=>lv (clG N es n)) hd (es.take k)) (lv (clG N es j)+1) else lmax N es (fun n=>lv (clG N es n)) hd (es.take k)):=zh (HT.out.trans HSTP.out)
      clear HT HSTP hxm hdj0
      generalize lmax N es (fun n=>lv (clG N es n)) hd (es.take k)=lk at *
      obtain⟨lk1,hlk1⟩:∃ x,x=lmax N es (fun n=>lv (clG N es n)) hd (es.take (k+1)):=⟨_,rfl⟩
      rw [← hlk1]at HT2
      have HLK:=zh hlk1
      clear hlk1
      generalize grpN N es i'=gi at *
      generalize grpN N es j=gj at *
      generalize gD d j=dj at *
      have hci:=cellA (.cells #[.int .i64 (i':Int),.int .i64 (j:Int)] 43) hgi
      have hcj:=cellA (.cells #[.int .i64 (i':Int),.int .i64 (j:Int)] 43) hgj
      have hco:=cellA (.cells #[.int .i64 (i':Int),.int .i64 (j:Int)] 43) hor
      have hch:=cellA (.cells #[.int .i64 (i':Int),.int .i64 (j:Int)] 43) hoh
      have hcd:=cellA (.cells #[.int .i64 (i':Int),.int .i64 (j:Int)] 43) hdj
      clear hgi hgj hor hoh hdj
      have hrp0:(0:Int)<(row.length:Int):=by omega
      by_cases q1:gi=hd
      case neg =>
       have r1:¬ (gi:Int)=(hd:Int):=by omega
       have r2:decide ((gi:Int)=(hd:Int))=false:=decide_eq_false r1
       have r3:((gi:Int) == (hd:Int))=false:=by simpa using r1
       have r4:(gi == hd)=false:=by simpa using q1
       have HP:Hid (lk1=lk):=zh (by rw [HT2.out,if_neg (fun h=>q1 h.1)])
       clear hbnd2
       go_wp2_with fail
       go_quiet (fail)
       go_wp2_with fail
       go_roundw
       case rel=>exact⟨k+1,by omega,by go_num,by rw [← HLK.out,HP.out],zh (below_drewN HBA.out _)⟩
       case measure=>simp [intOf];omega
      case pos =>
       have s1:(gi:Int)=(hd:Int):=by omega
       have s2:decide ((gi:Int)=(hd:Int))=true:=decide_eq_true s1
       have s3:((gi:Int) == (hd:Int))=true:=by simpa using s1
       have s4:(gi == hd)=true:=by simpa using q1
       by_cases q2:gj=hd
       case pos =>
        have HP:Hid (lk1=lk):=zh (by rw [HT2.out,if_neg (fun h=>h.2 q2)])
        clear hbnd2 s1 s2 s3 s4
        subst q1
        subst q2
        go_wp2_with fail
        go_quiet (fail)
        go_wp2_with fail
        go_roundw
        case rel=>exact⟨k+1,by omega,by go_num,by rw [← HLK.out,HP.out],zh (below_drewN HBA.out _)⟩
        case measure=>simp [intOf];omega
       case neg =>
        have r1:¬ (gj:Int)=(hd:Int):=by omega
        have r2:decide ((gj:Int)=(hd:Int))=false:=decide_eq_false r1
        have r3:((gj:Int) == (hd:Int))=false:=by simpa using r1
        have r4:(gj == hd)=false:=by simpa using q2
        obtain⟨hdv,hln⟩:=HED.out q1 q2
        subst hdv
        have HP:Hid (lk1=max lk (lv (clG N es j)+1)):=zh (by rw [HT2.out,if_pos ⟨q1,q2⟩])
        generalize lv (clG N es j)=lj at *
        have hwp:IntKind.i64.wrap ((lj:Int)+1)=(lj:Int)+1:=IntWalk.i64_in _ (by omega)
        have hw64:wrap64 ((lj:Int)+1)=(lj:Int)+1:=IntWalk.wrap64_in _ (by omega)
        clear hbnd2
        go_wp2_with fail
        go_quiet (fail)
        go_wp2_with fail
        go_roundw
        case rel=>exact⟨k+1,by omega,by go_num,by rw [← HLK.out,HP.out];exact congrArg _ (zln lk lj),zh (below_drewN HBA.out _)⟩
        case measure=>simp [intOf];omega
     case neg =>
      have hkk:k=es.length:=by omega
      subst hkk
      rw [List.take_length,HLE.out]
      obtain⟨Wk,hWk⟩:∃ V:World,V=wr:=⟨_,rfl⟩
      subst hWk
      have hIk:W.heap.size<Wk.heap.size:=by omega
      go_wp2_with fail
      go_loopw [11] (fun q wr=>∃ (m:Nat) (d':List Int),m≤row.length∧q=.int .i64 m∧Hid (SetR d row m (lc:Int) d')∧Hid (Ints wr W.heap.size d')∧Hid (Below W.heap.size W wr)) (fun q _=>row.length - (intOf q).toNat)
      case atStart=>exact⟨0,d,by omega,rfl,zh (SetR.zero _ _ _),HIX,HBX⟩
      case round =>
       clear HIX
       obtain⟨m,d',hm,rfl,HS,HIM,HBM⟩:=hrel
       have hsm:=HBM.out.size
       have hor:=(HRC.out wr HBM.out).1
       by_cases hlt3:m<row.length
       case pos =>
        have hm0':(0:Int)≤(m:Int):=by omega
        have hm1':(m:Int)<(row.length:Int):=by omega
        have hxm:row[m]∈row:=List.getElem_mem hlt3
        have hxN:=HRN.out _ hxm
        have hSN:=HS.out.step hlt3 (by omega)
        have hrx:=(HRC.out wr HBM.out).2 m row[m] (by simp [hlt3])
        obtain⟨x,hx⟩:∃ x,x=row[m]:=⟨_,rfl⟩
        rw [← hx]at hxN hSN hrx
        have HSN:=zh hSN
        have hx0:(0:Int)≤(x:Int):=by omega
        have hx1:(x:Int)<(N:Int):=by omega
        have hfz:=frozen_of_row _ _ x _ _ HIM.out
        have hcx0:d'[x]? = some (gD d' x):=by
         have:=HS.out.1
         unfold gD
         rw [zg,ze (by omega)]
         rfl
        have hcx:=HIM.out.cell x _ hcx0
        have HI2:=zh (HIM.out.set x (lc:Int))
        have HB2:Hid (Below W.heap.size W (wr.setCell ⟨W.heap.size,x,none⟩ (intC (lc:Int)))):=zh (HBM.out.setCell (by exact zq _) _)
        clear hSN hx hxm hcx0
        go_wp2_with fail
        go_roundw
        case rel=>exact⟨m+1,_,by omega,by go_num,HSN,HI2,HB2⟩
        case measure=>simp [intOf];omega
       case neg =>
        have hmm:m=row.length:=by omega
        subst hmm
        have HL2:Hid (LvR N es lv (i+1) d'):=zh (HL.out.step HTAKE.out (by rw [← HROW.out,← HLC.out];exact HS.out))
        have HM2:Hid (mostL lv ((listF (condG N es)).take (i+1))=max mo (lc:Int)):=zh (by rw [HTAKE.out,zj4,← HMO.out,← HLC.out])
        go_wp2_with fail
        go_roundw
        case rel=>exact⟨i+1,d',by omega,by go_num,by rw [HM2.out],HL2,HIM,HBM⟩
        case measure=>simp [intOf];omega
end Go.Proofs.YtapbhoodgnmnkaaGreatDoor
