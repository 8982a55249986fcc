/- Laws and contracts. -/
import Derived.Test.YtapbhoodgnmnkaaGreatDoorJQ
import Derived.Shelf.SlSorted.IsSorted
set_option linter.unusedVariables false
set_option linter.unusedSimpArgs false
set_option maxRecDepth 100000
set_option maxHeartbeats 32000000
namespace Go.Proofs.YtapbhoodgnmnkaaGreatDoor
open Go.Proofs.Tryz Go Go.RowKit Go.Maps
def MovF (M:List ByteArray)(f:Lit→Option Value):Prop:=∀ p:ByteArray,f (.string p.data.toList)=if p∈M then some (.bool true) else none
theorem MovF.start:MovF [] (fun _=>none):=fun p=>by simp
theorem MovF.put {M:List ByteArray}{f:Lit→Option Value}(h:MovF M f)(a:ByteArray):MovF (M++[a]) (putF f (.string a.data.toList) (.bool true)):=fun p=>by
 unfold putF
 by_cases hp:p=a
 ·subst hp
  rw [if_pos rfl,if_pos (by simp)]
 ·rw [if_neg (fun e=>hp (by injection e with e;exact ByteArray.ext (Array.toList_inj.1 e))),h p]
  by_cases hm:p∈M
  ·rw [if_pos hm,if_pos (by simp [hm])]
  ·rw [if_neg hm,if_neg (by simp [hm,hp])]
theorem MovF.look {M:List ByteArray}{f:Lit→Option Value}(h:MovF M f)(p:ByteArray):(f (.string p.data.toList)).getD (.bool false)=.bool (decide (p∈M)):=by
 rw [h p]
 by_cases hm:p∈M
 ·rw [if_pos hm,decide_eq_true hm];rfl
 ·rw [if_neg hm,decide_eq_false hm];rfl
def oldK (f:List SelL)(M:List ByteArray)(k:Nat):List SelL:=(f.take k).filter fun y=>!decide (y.1∈M)
def newK (t:List SelL)(M:List ByteArray)(k:Nat):List SelL:=(t.take k).filter fun y=>decide (y.1∈M)
theorem zid {f:List SelL}{M:List ByteArray}{k:Nat}(hk:k<f.length):oldK f M (k+1)=oldK f M k++(if decide (f[k].1∈M)=true then [] else [f[k]]):=by
 unfold oldK
 rw [zs hk,List.filter_append]
 congr 1
 cases h:decide (f[k].1∈M)<;>simp [h]
theorem zib {t:List SelL}{M:List ByteArray}{k:Nat}(hk:k<t.length):newK t M (k+1)=newK t M k++(if decide (t[k].1∈M)=true then [t[k]] else []):=by
 unfold newK
 rw [zs hk,List.filter_append]
 congr 1
 cases h:decide (t[k].1∈M)<;>simp [h]
theorem zf3 (f:List SelL)(M:List ByteArray)(k:Nat):(oldK f M k).length≤k:=Nat.le_trans (List.length_filter_le _ _) (by rw [List.length_take];omega)
theorem zez (t:List SelL)(M:List ByteArray)(k:Nat):(newK t M k).length≤k:=Nat.le_trans (List.length_filter_le _ _) (by rw [List.length_take];omega)
theorem z6p (X:List RelL)(f t:List SelL)(L:List ByteArray)(hfl:f.length≤1000000)(htl:t.length≤1000000)(hfp:∀ y∈f,y.1.size≤maxLen)(htp:∀ y∈t,y.1.size≤maxLen)(g:Nat)(w:World)(hU:UpV X f t L g w)
  (mv:Value) (M:List ByteArray) (hMl:M.length≤1000000) (hMp:∀ p∈M,p.size≤maxLen) (hM:RowOf Value.string w.heap.size mv M w) :
  Calls prog 45 #[.pointer (some ⟨g,0,none⟩),mv] w fun e w'=>∃ v l,e=.returned v∧l.Perm (oldK f M f.length++newK t M t.length)∧l.Pairwise (fun a b=>ltB b.1 a.1=false)∧SelsOf w'.heap.size v l w'∧Below w.heap.size w w':=by
 obtain⟨m1,m2,fv,tv,pv,B,hbx,_,_,_,hF,hT⟩:=hU
 obtain⟨fa,fc,rfl⟩:=zo hF
 obtain⟨ta,tc,rfl⟩:=zo hT
 have hgl:g<w.heap.size:=(zb hbx)
 have HUF:Hid (∀ W,Below w.heap.size w W→W.cell? ⟨g,2,none⟩=some (.slice fa f.length fc)):=zh (fun W hw=>(hw.cell (p:=⟨g,2,none⟩) hgl).trans (zw _ _ 2 _ _ _ hbx))
 have HUT:Hid (∀ W,Below w.heap.size w W→W.cell? ⟨g,3,none⟩=some (.slice ta t.length tc)):=zh (fun W hw=>(hw.cell (p:=⟨g,3,none⟩) hgl).trans (zw _ _ 3 _ _ _ hbx))
 obtain⟨ma,mc,rfl,hma⟩:=z01 hM
 have HMA:Hid (∀ W,Below w.heap.size w W→∀ i x,M[i]? = some x→∃ b off,ma=some ⟨b,off,none⟩∧W.cell? ⟨b,off+i,none⟩=some (.string x)):=zh (fun W hw i x hx=>by
  obtain⟨b,off,h1,h2,h3⟩:=hma i x hx
  exact⟨b,off,h1,(hw.cell (p:=⟨b,off+i,none⟩) h2).trans h3⟩)
 have HSF:=zh hF
 have HST:=zh hT
 have HFP:=zh hfp
 have HTP:=zh htp
 have HMP:=zh hMp
 have HZB:=zh (show ∀ W,(zeroValue 4).run prog W=.ok (.bool false) W from zeroValue4)
 have hmm:=@run_makeMap prog
 have HM0:Hid (MapF prog 9 (w.alloc (.map #[] 0)) w.heap.size 0 (fun _=>none)):=zh (MapF.made prog 9 w)
 have HB0:=zh (belQ w (.map #[] 0))
 clear hF hT hbx hM hma hfp htp hMp
 go_enter func45,ntmps45
 go_upto_region 2 with fail
 generalize w.alloc (.map #[] 0)=W0 at *
 clear hmm
 go_wp2_with fail
 go_loopw [16] (fun p wr=>Hid (∃ k:Nat,k≤M.length∧p=.int .i64 (k:Int)∧(∃ fm,MapF prog 9 wr w.heap.size k fm∧MovF (M.take k) fm)∧Below w.heap.size w wr)) (fun p _=>M.length - (intOf p).toNat)
 case atStart=>exact zh ⟨0,Nat.zero_le _,rfl,⟨_,HM0.out,MovF.start⟩,HB0.out⟩
 case round =>
  obtain⟨k,hk,rfl,⟨fm,hmf,hpf⟩,hb⟩:=hrel.out
  have HMF:=zh hmf
  have HPF:=zh hpf
  have HB:=zh hb
  clear hrel hmf hpf hb HM0 HB0
  by_cases hlt:k<M.length
  case pos =>
   have hk0:(0:Int)≤(k:Int):=Int.natCast_nonneg k
   have hkz:(k:Int)<(M.length:Int):=Int.ofNat_lt.2 hlt
   obtain⟨b,off,rfl,d0⟩:=HMA.out wr HB.out k _ (ze hlt)
   have HPUT:Hid (MovF (M.take (k+1)) (putF fm (.string M[k].data.toList) (.bool true))):=zh (by rw [zs hlt];exact HPF.out.put _)
   have hps:=HMP.out _ (List.getElem_mem hlt)
   generalize M[k]=a at *
   go_wp2_with (refine z17 rfl _ _ _ _ rfl 9 4 lawStr underlying125 w.heap.size k fm (by rfl) HMF.out (by unfold maxLen;omega) _ _ (.string a.data.toList) rfl rfl (keyStr hps) ?_;intro W' h11 g11;have HM11:=zh h11;have HB11:=zh (HB.out.grown g11 HB.out.size (fun b hb=>by cases hb;exact zq _));clear h11 g11)
   all_goals
    refine⟨zh ⟨k+1,hlt,by go_num,⟨_,HM11.out,HPUT.out⟩,HB11.out⟩,?_⟩
    simp [intOf];omega
  case neg =>
   have hkk:k=M.length:=Nat.le_antisymm hk (Nat.le_of_not_lt hlt)
   clear hk
   subst hkk
   have HMO:Hid (MovF M fm):=zh (by have:=HPF.out;rwa [List.take_length]at this)
   obtain⟨wa,hwa⟩:∃ wa,wr=wa:=⟨_,rfl⟩
   replace hwa:=hwa.symm
   subst hwa
   have HWA:=HB
   have HMW:=HMF
   clear HB HMF HPF hlt
   have hml:w.heap.size<wa.heap.size:=HMW.out.lt
   have u2:=HUF.out wa HWA.out
   obtain⟨i0,hi0,hz0,hz1,hz2⟩:=info_parts z9u
   go_wp2_with fail
   go_loopw [8,28] (fun ov p wr=>Hid (∃ (k:Nat),k≤f.length∧p=.int .i64 (k:Int)∧wr.ownsRow wa.heap.size 53 4 ov (oldK f M k).length (selCells (oldK f M k))∧Below wa.heap.size wa wr)) (fun _ p _=>f.length - (intOf p).toNat)
   case atStart=>exact zh ⟨0,Nat.zero_le _,rfl,World.ownsRow_nil _ _ _ _,Below.refl _ _⟩
   case round =>
    clear u2
    obtain⟨k,hk,rfl,ho,hb⟩:=hrel.out
    have HO:=zh ho
    have HB:=zh hb
    obtain⟨oa,oc,rfl⟩:=z05 ho
    clear hrel ho hb
    have hs8:=HB.out.size
    have HBW:=zh (HWA.out.trans (HB.out.mono HWA.out.size))
    by_cases hlt:k<f.length
    case pos =>
     have hk0:(0:Int)≤(k:Int):=Int.natCast_nonneg k
     have hkz:(k:Int)<(f.length:Int):=Int.ofNat_lt.2 hlt
     have HSU:=zh (zid (M:=M) hlt)
     have hol:=zf3 f M k
     obtain⟨b,off,rfl,hbl,d0,d1,d2,d3⟩:=HSF.out.at hlt
     have hyk:f.getD k default=f[k]:=by rw [zg,ze hlt];rfl
     rw [hyk]at d0 d1 d2 d3
     have d0:=(HBW.out.cell (p:=⟨b,off+k*4,none⟩) hbl).trans d0
     have d1:=(HBW.out.cell (p:=⟨b,off+k*4+1,none⟩) hbl).trans d1
     have d2:=(HBW.out.cell (p:=⟨b,off+k*4+2,none⟩) hbl).trans d2
     have d3:=(HBW.out.cell (p:=⟨b,off+k*4+3,none⟩) hbl).trans d3
     have hps:=HFP.out _ (List.getElem_mem hlt)
     clear hyk
     generalize f[k]=y at *
     have HKY:=zh (keyStr (p:=y.1) hps)
     have HLK:=zh (HMO.out.look y.1)
     generalize decide (y.1∈M)=yb at *
     have hbq:=belQ wr (.cells #[.string y.1,intC y.2.1,intC y.2.2.1,intC y.2.2.2] 53)
     have HN1:=zh (zn wr (.cells #[.string y.1,intC y.2.1,intC y.2.2.1,intC y.2.2.2] 53))
     have HB1:=zh (HB.out.trans (hbq.mono hs8))
     have HO1:=zh (z07 HO.out hbq)
     have HM1:=zh (HMW.out.below (HB.out.trans (hbq.mono hs8)))
     clear hbq
     go_upto_region 11 with fail
     generalize wr.alloc (.cells #[.string y.1,intC y.2.1,intC y.2.2.1,intC y.2.2.2] 53)=W1 at *
     obtain⟨gy,hgy⟩:∃ gy,wr.heap.size=gy:=⟨_,rfl⟩
     rw [hgy]at HN1
     simp only [hgy]
     clear hgy d0 d1 d2 d3
     have y0:W1.cell? ⟨gy,0,none⟩=some (.string y.1):=zw _ _ 0 _ _ _ HN1.out
     have y1:W1.cell? ⟨gy,1,none⟩=some (intC y.2.1):=zw _ _ 1 _ _ _ HN1.out
     have y2:W1.cell? ⟨gy,2,none⟩=some (intC y.2.2.1):=zw _ _ 2 _ _ _ HN1.out
     have y3:W1.cell? ⟨gy,3,none⟩=some (intC y.2.2.2):=zw _ _ 3 _ _ _ HN1.out
     have hs9:=HB1.out.size
     cases yb with
     | true =>
      simp only [if_true,List.append_nil]at HSU
      go_wp2_with (at_lookup;refine z1c rfl _ _ 125 rfl 9 4 lawStr underlying125 (HZB.out _) w.heap.size M.length fm (by rfl) HM1.out _ (.string y.1.data.toList) rfl HKY.out ?_;rw [HLK.out])
      all_goals
       refine⟨zh ⟨k+1,hlt,by go_num,by rw [HSU.out];exact HO1.out,HB1.out⟩,?_⟩
       simp [intOf];omega
     | false =>
      generalize oldK f M k=K at *
      go_upto_region 12 with (at_lookup;refine z1c rfl _ _ 125 rfl 9 4 lawStr underlying125 (HZB.out _) w.heap.size M.length fm (by rfl) HM1.out _ (.string y.1.data.toList) rfl HKY.out ?_;rw [HLK.out])
      have HN2:=zh (zn W1 (.cells #[.string y.1,intC y.2.1,intC y.2.2.1,intC y.2.2.2] 53))
      have HO2:=zh (z07 HO1.out (belQ W1 (.cells #[.string y.1,intC y.2.1,intC y.2.2.1,intC y.2.2.2] 53)))
      have HB2:=zh (HB1.out.trans ((belQ W1 (.cells #[.string y.1,intC y.2.1,intC y.2.2.1,intC y.2.2.2] 53)).mono hs9))
      have hs10:wa.heap.size≤(W1.alloc (.cells #[.string y.1,intC y.2.1,intC y.2.2.1,intC y.2.2.2] 53)).heap.size:=HB2.out.size
      go_wp2_with (at_builtin;refine wpList_append_own _ rfl _ _ 26 rfl wa.heap.size 53 i0 _ 4 40 underlying26 hi0 hz0 hz1 hz2 rfl (by decide) (.slice oa K.length oc) K.length _ (by rfl) HO2.out ⟨W1.heap.size,0,none⟩ 1 1 [.string y.1,intC y.2.1,intC y.2.2.1,intC y.2.2.2] (by rfl) (by rfl) (World.news_of_block HN2.out) (by simp [Value.oneCell']) (by unfold maxLen;omega) (by omega) hs10 ?_;intro v' wB hown' hgrow _;have HOW:=zh hown';have HGR:=zh hgrow;clear hown' hgrow;obtain⟨g3,gc3,rfl⟩:=ownsRow_succ HOW.out)
      all_goals
       have HBE:=zh (HB2.out.grown HGR.out hs10 (fun b hb=>(z0g HO2.out b hb).1))
       have HOE:Hid (wB.ownsRow wa.heap.size 53 4 (.slice (some ⟨g3,0,none⟩) (K.length+1) gc3) (oldK f M (k+1)).length (selCells (oldK f M (k+1)))):=zh (by
        have e:oldK f M (k+1)=K++[y]:=by rw [HSU.out];rfl
        rw [e,List.length_append,z2b];exact HOW.out)
       refine⟨zh ⟨k+1,hlt,by go_num,HOE.out,HBE.out⟩,?_⟩
       simp [intOf];omega
    case neg =>
     have hkk:k=f.length:=Nat.le_antisymm hk (Nat.le_of_not_lt hlt)
     clear hk
     subst hkk
     obtain⟨K0,hK0⟩:∃ K0,oldK f M f.length=K0:=⟨_,rfl⟩
     have hk0l:=zf3 f M f.length
     rw [hK0]at HO hk0l
     have HKE:=zh hK0
     simp only [hK0]
     clear hK0
     have u3:=HUT.out wr HBW.out
     have HOS:=HO
     have HBS:=HB
     clear HO HB
     go_wp2_with fail
     go_loopw [8,47] (fun ov p wr=>Hid (∃ (k:Nat),k≤t.length∧p=.int .i64 (k:Int)∧wr.ownsRow wa.heap.size 53 4 ov (K0++newK t M k).length (selCells (K0++newK t M k))∧Below wa.heap.size wa wr)) (fun _ p _=>t.length - (intOf p).toNat)
     case atStart=>exact zh ⟨0,Nat.zero_le _,rfl,by simpa [newK]using HOS.out,HBS.out⟩
     case round =>
      clear u3 hs8 HOS HBS HBW hlt
      obtain⟨k,hk,rfl,ho,hb⟩:=hrel.out
      have HO:=zh ho
      have HB:=zh hb
      obtain⟨oa,oc,rfl⟩:=z05 ho
      clear hrel ho hb
      have hs8:=HB.out.size
      have HBW:=zh (HWA.out.trans (HB.out.mono HWA.out.size))
      by_cases hlt:k<t.length
      case pos =>
       have hk0:(0:Int)≤(k:Int):=Int.natCast_nonneg k
       have hkz:(k:Int)<(t.length:Int):=Int.ofNat_lt.2 hlt
       have HSU:Hid (K0++newK t M (k+1)=K0++newK t M k++(if decide (t[k].1∈M)=true then [t[k]] else [])):=zh (by rw [zib hlt,List.append_assoc])
       have hol:(K0++newK t M k).length≤2000000:=by rw [List.length_append];have:=zez t M k;omega
       generalize K0++newK t M k=K at *
       obtain⟨b,off,rfl,hbl,d0,d1,d2,d3⟩:=HST.out.at hlt
       have hyk:t.getD k default=t[k]:=by rw [zg,ze hlt];rfl
       rw [hyk]at d0 d1 d2 d3
       have d0:=(HBW.out.cell (p:=⟨b,off+k*4,none⟩) hbl).trans d0
       have d1:=(HBW.out.cell (p:=⟨b,off+k*4+1,none⟩) hbl).trans d1
       have d2:=(HBW.out.cell (p:=⟨b,off+k*4+2,none⟩) hbl).trans d2
       have d3:=(HBW.out.cell (p:=⟨b,off+k*4+3,none⟩) hbl).trans d3
       have hps:=HTP.out _ (List.getElem_mem hlt)
       clear hyk
       generalize t[k]=y at *
       have HKY:=zh (keyStr (p:=y.1) hps)
       have HLK:=zh (HMO.out.look y.1)
       generalize decide (y.1∈M)=yb at *
       have hbq:=belQ wr (.cells #[.string y.1,intC y.2.1,intC y.2.2.1,intC y.2.2.2] 53)
       have HN1:=zh (zn wr (.cells #[.string y.1,intC y.2.1,intC y.2.2.1,intC y.2.2.2] 53))
       have HB1:=zh (HB.out.trans (hbq.mono hs8))
       have HO1:=zh (z07 HO.out hbq)
       have HM1:=zh (HMW.out.below (HB.out.trans (hbq.mono hs8)))
       clear hbq
       go_upto_region 17 with fail
       generalize wr.alloc (.cells #[.string y.1,intC y.2.1,intC y.2.2.1,intC y.2.2.2] 53)=W1 at *
       obtain⟨gy,hgy⟩:∃ gy,wr.heap.size=gy:=⟨_,rfl⟩
       rw [hgy]at HN1
       simp only [hgy]
       clear hgy d0 d1 d2 d3
       have y0:W1.cell? ⟨gy,0,none⟩=some (.string y.1):=zw _ _ 0 _ _ _ HN1.out
       have y1:W1.cell? ⟨gy,1,none⟩=some (intC y.2.1):=zw _ _ 1 _ _ _ HN1.out
       have y2:W1.cell? ⟨gy,2,none⟩=some (intC y.2.2.1):=zw _ _ 2 _ _ _ HN1.out
       have y3:W1.cell? ⟨gy,3,none⟩=some (intC y.2.2.2):=zw _ _ 3 _ _ _ HN1.out
       have hs9:=HB1.out.size
       cases yb with
       | false =>
        simp only [Bool.false_eq_true,if_false,List.append_nil]at HSU
        go_wp2_with (at_lookup;refine z1c rfl _ _ 125 rfl 9 4 lawStr underlying125 (HZB.out _) w.heap.size M.length fm (by rfl) HM1.out _ (.string y.1.data.toList) rfl HKY.out ?_;rw [HLK.out])
        all_goals
         refine⟨zh ⟨k+1,hlt,by go_num,by rw [HSU.out];exact HO1.out,HB1.out⟩,?_⟩
         simp [intOf];omega
       | true =>
        go_upto_region 18 with (at_lookup;refine z1c rfl _ _ 125 rfl 9 4 lawStr underlying125 (HZB.out _) w.heap.size M.length fm (by rfl) HM1.out _ (.string y.1.data.toList) rfl HKY.out ?_;rw [HLK.out])
        have HN2:=zh (zn W1 (.cells #[.string y.1,intC y.2.1,intC y.2.2.1,intC y.2.2.2] 53))
        have HO2:=zh (z07 HO1.out (belQ W1 (.cells #[.string y.1,intC y.2.1,intC y.2.2.1,intC y.2.2.2] 53)))
        have HB2:=zh (HB1.out.trans ((belQ W1 (.cells #[.string y.1,intC y.2.1,intC y.2.2.1,intC y.2.2.2] 53)).mono hs9))
        have hs10:wa.heap.size≤(W1.alloc (.cells #[.string y.1,intC y.2.1,intC y.2.2.1,intC y.2.2.2] 53)).heap.size:=HB2.out.size
        go_wp2_with (at_builtin;refine wpList_append_own _ rfl _ _ 26 rfl wa.heap.size 53 i0 _ 4 40 underlying26 hi0 hz0 hz1 hz2 rfl (by decide) (.slice oa K.length oc) K.length _ (by rfl) HO2.out ⟨W1.heap.size,0,none⟩ 1 1 [.string y.1,intC y.2.1,intC y.2.2.1,intC y.2.2.2] (by rfl) (by rfl) (World.news_of_block HN2.out) (by simp [Value.oneCell']) (by unfold maxLen;omega) (by omega) hs10 ?_;intro v' wB hown' hgrow _;have HOW:=zh hown';have HGR:=zh hgrow;clear hown' hgrow;obtain⟨g3,gc3,rfl⟩:=ownsRow_succ HOW.out)
        all_goals
         have HBE:=zh (HB2.out.grown HGR.out hs10 (fun b hb=>(z0g HO2.out b hb).1))
         have HOE:Hid (wB.ownsRow wa.heap.size 53 4 (.slice (some ⟨g3,0,none⟩) (K.length+1) gc3) (K0++newK t M (k+1)).length (selCells (K0++newK t M (k+1)))):=zh (by
          have e:K0++newK t M (k+1)=K++[y]:=by rw [HSU.out];rfl
          rw [e,List.length_append,z2b];exact HOW.out)
         refine⟨zh ⟨k+1,hlt,by go_num,HOE.out,HBE.out⟩,?_⟩
         simp [intOf];omega
      case neg =>
       have hkk:k=t.length:=Nat.le_antisymm hk (Nat.le_of_not_lt hlt)
       clear hk
       subst hkk
       have hnl:=zez t M t.length
       have hol:(K0++newK t M t.length).length≤2000000:=by rw [List.length_append];omega
       have HSO:=zh (zj1 wa.heap.size _ _ wr HO.out (by omega))
       have HLE:Hid (K0++newK t M t.length=oldK f M f.length++newK t M t.length):=zh (by rw [HKE.out])
       generalize K0++newK t M t.length=KK at *
       go_wp2_with fail
       refine HSO.out.mono ?_
       rintro e w5 ⟨rfl,l',hpl,hpw,hg5,ho5⟩
       have HB5:=zh (HWA.out.trans ((HB.out.grown hg5 HB.out.size (fun b hb=>(z0g HO.out b hb).1)).mono HWA.out.size))
       have HPL:=zh hpl
       have HPW:=zh hpw
       have hll:l'.length=KK.length:=hpl.length_eq
       rw [← hll]at ho5
       have HS5:=zh (za4 ho5)
       rw [hll]at HS5
       clear hpl hpw hg5 ho5 HSO HO HB
       go_wp2_with fail
       go_ret
       exact⟨_,l',rfl,by rw [← HLE.out];exact HPL.out,HPW.out,by have:=HS5.out;exact this,HB5.out⟩
def PredStr (g:Nat)(lb:Array Value)(es:List ByteArray)(p:ByteArray→Bool)(w:World):Prop :=
 ∀ (W:World) (x:ByteArray),x∈es→Below w.heap.size w W→Calls prog g (#[.string x]++lb) W fun e w'=>e=.returned (.bool (p x))∧Below w.heap.size w w'
theorem zlz (g:Nat)(lb:Array Value)(eg:∀ args w,(callFunc g args).run prog w=.ok (.enter g args) w)(p:ByteArray→Bool)(v:Value)(es:List ByteArray)(w:World)(hes:es.length≤1000000000)(hE:RowOf Value.string w.heap.size v es w)(hp:PredStr g lb es p w) :
  Calls prog 74 #[v,.func (.func g) #[] lb] w fun e w'=>e=.returned (.int .i64 (firstI p es))∧Below w.heap.size w w':=by
 obtain⟨ao,ec,rfl,hE2⟩:=z01 hE
 have HE:=zh hE2
 have HP:=zh hp
 obtain⟨R,hR⟩:∃ R,firstI p es=R:=⟨_,rfl⟩
 have HR:=zh hR
 rw [hR]
 clear hE hE2 hp hR
 go_enter func74,ntmps74
 go_wp2_with fail
 go_loopw [8] (fun s wr=>∃ k:Nat,k≤es.length∧s=.int .i64 k∧Hid (Below w.heap.size w wr)∧Hid (∀ x∈es.take k,p x=false)) (fun s _=>es.length - (intOf s).toNat)
 case atStart=>exact⟨0,by omega,rfl,zh (Below.refl _ _),zh (by simp)⟩
 case round =>
  obtain⟨k,hk,rfl,HB,HA⟩:=hrel
  by_cases hlt:k<es.length
  ·have hlt2:(k:Int)<(es.length:Int):=by omega
   obtain⟨b,off,rfl,hb,hc1⟩:=HE.out k es[k] (by simp [hlt])
   have hd1:=(HB.out.cell (p:=⟨b,off+k,none⟩) hb).trans hc1
   have HT:Hid (es.take (k+1)=es.take k++[es[k]]):=zh (zs hlt)
   have HF:Hid (p es[k]=true→R=(k:Int)):=zh (fun h=>by rw [← HR.out];exact zb4 hlt HA.out h)
   have HCALL:=zh (HP.out wr es[k] (List.getElem_mem hlt) HB.out)
   generalize es[k]=x at *
   cases hq:p x with
   | true =>
    rw [hq]at HCALL
    have HQ:=zh (HF.out hq)
    clear hq
    go_wp2_with (go_at_fn g;refine HCALL.out.mono ?_;rintro e w' ⟨rfl,hb'⟩)
    go_ret
    exact⟨by rw [HQ.out];rfl,hb'⟩
   | false =>
    rw [hq]at HCALL
    have HQ:=zh hq
    clear hq
    go_wp2_with (go_at_fn g;refine HCALL.out.mono ?_;rintro e w' ⟨rfl,hb'⟩)
    go_roundw
    case rel =>
     refine⟨k+1,by omega,by go_num,zh hb',zh ?_⟩
     rw [HT.out]
     intro y hy
     rcases List.mem_append.1 hy with hy | hy
     ·exact HA.out y hy
     ·rw [List.mem_singleton]at hy;rw [hy];exact HQ.out
    case measure=>simp [intOf];omega
  ·have hkk:k=es.length:=by omega
   subst hkk
   rw [List.take_length]at HA
   have HN:=zh (show R=-1 by rw [← HR.out];exact z6x HA.out)
   go_wp2_with fail
   go_ret
   exact⟨by rw [HN.out];rfl,HB.out⟩
theorem zlw (g:Nat)(lb:Array Value)(eg:∀ args w,(callFunc g args).run prog w=.ok (.enter g args) w)(p:ByteArray→Bool)(v:Value)(es:List ByteArray)(w:World)(hes:es.length≤1000000000)(hE:RowOf Value.string w.heap.size v es w)(hp:PredStr g lb es p w) :
  Calls prog 42 #[v,.func (.func g) #[] lb] w fun e w'=>e=.returned (.bool (es.any p))∧Below w.heap.size w w':=by
 have HI:=zh (zlz g lb eg p v es w hes hE hp)
 obtain⟨f1,f2⟩:=z8b p es
 generalize firstI p es=r at HI f1 f2
 generalize es.any p=q at f1 f2 ⊢
 have HF:=zh (And.intro f1 f2)
 obtain⟨ao,ec,rfl,_⟩:=z01 hE
 clear hp eg f1 f2
 go_enter func42,ntmps42
 go_wp2_with fail
 refine HI.out.mono ?_
 rintro e w' ⟨rfl,hb⟩
 cases q with
 | true =>
  have h0:0≤r:=HF.out.1.2 rfl
  go_wp2_with fail
  go_ret
  exact⟨rfl,hb⟩
 | false =>
  have h2:r<0:=HF.out.2.2 rfl
  have h0:¬ 0≤r:=by omega
  have h1:decide (0≤r)=false:=decide_eq_false h0
  go_wp2_with fail
  go_ret
  exact⟨rfl,hb⟩
/-! the selection in between, sorted -/
theorem z72:∀ {a b:List SelL},incrS a→incrS b→(∀ y,y∈a ↔ y∈b)→a=b
 | [],[],_,_,_=>rfl
 | [],x::b,_,_,h=>by have:=(h x).2 (by simp);cases this
 | x::a,[],_,_,h=>by have:=(h x).1 (by simp);cases this
 | x::a,y::b,ha,hb,h=>by
  have ha1:=List.pairwise_cons.1 ha
  have hb1:=List.pairwise_cons.1 hb
  have e:x=y:=by
   rcases List.mem_cons.1 ((h x).1 (by simp))with e | hx
   ·exact e
   ·rcases List.mem_cons.1 ((h y).2 (by simp))with e | hy
    ·exact e.symm
    ·have h1:=hb1.1 x hx
     have h2:=ha1.1 y hy
     rw [z1n h1]at h2
     cases h2
  subst e
  congr 1
  refine z72 ha1.2 hb1.2 fun z=>⟨fun hz=>?_,fun hz=>?_⟩
  ·rcases List.mem_cons.1 ((h z).1 (List.mem_cons_of_mem _ hz))with e | hz2
   ·subst e
    have:=ha1.1 z hz
    rw [z0c]at this;cases this
   ·exact hz2
  ·rcases List.mem_cons.1 ((h z).2 (List.mem_cons_of_mem _ hz))with e | hz2
   ·subst e
    have:=hb1.1 z hz
    rw [z0c]at this;cases this
   ·exact hz2
theorem zlj {s:List SelL}(hs:incrS s)(y:SelL):atS s y.1=some y ↔ y∈s:=⟨fun h=>(z02 h).1,z6n hs⟩
theorem zea {f t l:List SelL}{M:List ByteArray}(hf:incrS f)(ht:incrS t)(hp:l.Perm (oldK f M f.length++newK t M t.length))(hw:l.Pairwise (fun a b=>ltB b.1 a.1=false)):l=betV f t M:=by
 have hmem:∀ y,y∈l ↔ (y∈f∧y.1 ∉ M)∨(y∈t∧y.1∈M):=fun y=>by
  rw [hp.mem_iff,List.mem_append]
  unfold oldK newK
  rw [List.take_length,List.take_length,List.mem_filter,List.mem_filter]
  simp
 have hnd:(l.map (·.1)).Nodup:=by
  have h:=(hp.map (·.1)).nodup_iff.2 (by
   rw [List.map_append,List.nodup_append]
   refine⟨?_,?_,?_⟩
   ·unfold oldK;rw [List.take_length];exact((List.filter_sublist).map _).nodup (z2z hf)
   ·unfold newK;rw [List.take_length];exact((List.filter_sublist).map _).nodup (z2z ht)
   ·intro a ha b hb e
    obtain⟨y,hy,rfl⟩:=List.mem_map.1 ha
    obtain⟨z,hz,rfl⟩:=List.mem_map.1 hb
    have h1:=(List.mem_filter.1 hy).2
    have h2:=(List.mem_filter.1 hz).2
    simp only [Bool.not_eq_true',decide_eq_false_iff_not,decide_eq_true_eq]at h1 h2
    exact h1 (by rw [e];exact h2))
  exact h
 have hinc:incrS l:=by
  unfold List.Nodup at hnd
  rw [List.pairwise_map]at hnd
  unfold incrS
  refine(hw.and hnd).imp fun {a b} ⟨h1,h2⟩=>?_
  cases h:ltB a.1 b.1 with
  | true=>rfl
  | false=>exact absurd (z2i h h1) h2
 refine z72 hinc (z2x hf ht) fun y=>?_
 rw [hmem,z21]
 by_cases hm:y.1∈M
 ·rw [if_pos hm,zlj ht];simp [hm]
 ·rw [if_neg hm,zlj hf];simp [hm]
theorem zb1 (v:Value)(L:List ByteArray)(x:ByteArray)(w:World)(hl:L.length≤1000000000)(h:RowOf Value.string w.heap.size v L w) :
  Calls prog 44 #[v,.string x] w fun e w'=>e=.returned (.bool (decide (x∈L)))∧w'=w:=by
 rcases h with ⟨rfl,a,c,rfl⟩ | ⟨b,off,cap,rfl,hb,h⟩
 ·refine(Tryz.slices_Contains_string_empty a c x w).mono ?_
  rintro e w' ⟨rfl,rfl⟩
  exact⟨by simp,rfl⟩
 ·refine(Tryz.slices_Contains_string b off L.length cap L x w (zq _) (by omega) (fun j hj=>by
   have:=h j L[j] (by simp [hj])
   rw [this,zg,ze hj]
   rfl)).mono ?_
  rintro e w' ⟨rfl,rfl⟩
  refine⟨?_,rfl⟩
  rw [List.take_length]
  congr 2
  by_cases hm:x∈L
  ·rw [decide_eq_true hm];exact(Lib.containsS_iff L x).2 hm
  ·rw [decide_eq_false hm]
   cases hc:Lib.containsS L x with
   | false=>rfl
   | true=>exact absurd ((Lib.containsS_iff L x).1 hc) hm
theorem zjs (X:List RelL)(f t:List SelL)(L:List ByteArray)(hL:L.length≤1000000)(gu c:Nat)(p:ByteArray)(W:World)(hU:UpV X f t L gu W)(hc:W.cell? ⟨c,0,none⟩=some (.pointer (some ⟨gu,0,none⟩))) :
  Calls prog 43 #[.string p,.pointer (some ⟨c,0,none⟩)] W fun e w'=>e=.returned (.bool (!decide (p∈L)))∧Below W.heap.size W w':=by
 obtain⟨m1,m2,fv,tv,pv,B,hbx,_,_,hrow,_,_⟩:=hU
 obtain⟨pa,pc,rfl⟩:=z05 hrow
 have u4:W.cell? ⟨gu,4,none⟩=some (.slice pa L.length pc):=zw _ _ 4 _ _ _ hbx
 have HCO:=zh (zb1 _ L p W (by omega) (z29 hrow).2)
 generalize decide (p∈L)=q at *
 clear hrow hbx
 go_enter func43,ntmps43
 go_wp2_with fail
 refine HCO.out.mono ?_
 rintro e w' ⟨rfl,rfl⟩
 go_wp2_with fail
 go_ret
 exact⟨rfl,Below.refl _ _⟩
noncomputable def btwV (X:List RelL)(f t:List SelL)(M:List ByteArray):Int:=if errW X f t≠0 then errW X f t else if (M.any fun p=>!decide (p∈movesP f t))=true then 6 else 0
noncomputable def btwS (X:List RelL)(f t:List SelL)(M:List ByteArray):List SelL:=if btwV X f t M=0 then betV f t M else []
def BtwR (X:List RelL)(f t:List SelL)(M:List ByteArray)(w:World)(e:Ending)(w':World):Prop:=∃ v,e=.returned (.tuple #[v,.int .i64 (btwV X f t M)])∧SelsOf w'.heap.size v (btwS X f t M) w'∧Below w.heap.size w w'
theorem BtwR.no {X:List RelL}{f t:List SelL}{M:List ByteArray}{w w':World}{E:Int}(hb:Below w.heap.size w w')(h:btwV X f t M=E)(h0:E≠0):BtwR X f t M w (.returned (.tuple #[.slice none 0 0,.int .i64 E])) w':=⟨_,by rw [h],by
 have:btwS X f t M=[]:=by unfold btwS;rw [if_neg (by rw [h];exact h0)]
 rw [this]
 exact⟨none,0,rfl,fun i x hx=>by cases hx⟩,hb⟩
theorem zcq (v iv fv tv mv:Value)(X:List RelL)(f t:List SelL)(M:List ByteArray)(w:World)(hm:MaxOk w)(hX:X.length≤1000000)(hq:∀ x∈X,RelBd x)(hR:RelsOf w.heap.size v X w)
  (hf:f.length≤1000000) (hfy:∀ y∈f,SelBd y) (hF:SelsOf w.heap.size fv f w) (ht:t.length≤1000000) (hty:∀ y∈t,SelBd y) (hT:SelsOf w.heap.size tv t w)
  (hMl:M.length≤1000000) (hMp:∀ p∈M,p.size≤maxLen) (hM:RowOf Value.string w.heap.size mv M w) :
  Calls prog 19 #[.agg #[v,iv],fv,tv,mv] w (BtwR X f t M w):=by
 have HU:=zh (fun W (hb:RowKit.Below w.heap.size w W)=>z2k v iv fv tv X f t W (hm.below hb hm.pos) hX hq (hR.on hb) hf hfy (hF.on hb) ht hty (hT.on hb))
 have HBT:=zh (fun W g (h0:errW X f t=0) (hb:RowKit.Below w.heap.size w W) (hU:UpV X f t (movesP f t) g W)=>z6p X f t (movesP f t) hf ht (fun y hy=>(hfy y hy).path) (fun y hy=>(hty y hy).path) g W hU mv M hMl hMp ((hM.below hb (zq _)).mono hb.size))
 have HHS:=zh (fun W g c (h0:errW X f t=0) (hb:RowKit.Below w.heap.size w W) (hU:UpV X f t (movesP f t) g W) (hc:W.cell? ⟨c,0,none⟩=some (.pointer (some ⟨g,0,none⟩))) =>
  zlw 43 #[.pointer (some ⟨c,0,none⟩)] (enters_of func43 (by kernel_rfl) rfl) (fun p=>!decide (p∈movesP f t)) mv M W (by omega) ((hM.below hb (zq _)).mono hb.size) (fun W2 p _ hb2=>by
   have hlt:=World.block_lt_of_cell? _ _ hc
   have hms:=z24 h0
   exact(zjs X f t (movesP f t) (by omega) g c p W2 (hU.below hb2) ((hb2.cell (p:=⟨c,0,none⟩) hlt).trans hc)).mono fun e w' h=>⟨h.1,hb2.trans (h.2.mono hb2.size)⟩))
 have HSO:Hid (errW X f t=0→∀ l:List SelL,l.Perm (oldK f M f.length++newK t M t.length)→l.Pairwise (fun a b=>ltB b.1 a.1=false)→l=betV f t M):=zh (fun h0 l h1 h2=>zea (z0f (z04 h0).1).2.1 (z0f (z04 h0).2).2.1 h1 h2)
 have HV1:Hid (errW X f t≠0→btwV X f t M=errW X f t):=zh (fun h=>by unfold btwV;rw [if_pos h])
 have HV2:Hid (errW X f t=0→(M.any fun p=>!decide (p∈movesP f t))=true→btwV X f t M=6):=zh (fun h h2=>by unfold btwV;rw [if_neg (fun g=>g h),if_pos h2])
 have HV3:Hid (errW X f t=0→(M.any fun p=>!decide (p∈movesP f t))=false→btwV X f t M=0):=zh (fun h h2=>by unfold btwV;rw [if_neg (fun g=>g h),h2,if_neg (by decide)])
 obtain⟨va,vn,vc,rfl⟩:∃ a n c,v=.slice a n c:=by obtain⟨a,c,_,e,_⟩:=hR.rv;exact⟨_,_,_,e⟩
 obtain⟨fa,fc,rfl⟩:=zo hF
 obtain⟨ta,tc,rfl⟩:=zo hT
 obtain⟨ma,mc,rfl,_⟩:=z01 hM
 clear hm hq hR hF hT hfy hty hM hMp
 have HB0:=zh (IdxBx.start w (.slice va vn vc) iv)
 unfold UpgR at HU
 obtain⟨E,hE⟩:∃ E,errW X f t=E:=⟨_,rfl⟩
 rw [hE]at HU HBT HHS HSO HV1 HV2 HV3
 clear hE
 go_enter func19,ntmps19
 go_upto_region 1 with fail
 generalize w.alloc (.cells #[.slice va vn vc,iv] 25)=W at *
 have c0:=HB0.out.c0
 have c1:=HB0.out.c1
 go_wp2_with fail
 refine(HU.out _ HB0.out.bel).mono ?_
 rintro e w1 ⟨hb1,g,rfl,hg⟩
 have hbq:=belQ w1 (.cells #[.pointer g] 59)
 have HB1:=zh ((HB0.out.below hb1).below hbq)
 have HN1:=zh (zw _ _ 0 _ _ _ (zn w1 (.cells #[.pointer g] 59)))
 have HUP:Hid (E=0→∃ b,g=some ⟨b,0,none⟩∧UpV X f t (movesP f t) b (w1.alloc (.cells #[.pointer g] 59))):=zh (fun h=>by obtain⟨b,h1,h2⟩:=hg h;exact⟨b,h1,h2.below hbq⟩)
 clear hb1 hg hbq c0 c1 HU HB0
 by_cases h0:E=0
 case neg =>
  have h0b:(E != 0)=true:=by simpa using h0
  have HV:=zh (HV1.out h0)
  go_wp2_with fail
  go_ret2
  exact BtwR.no HB1.out.bel HV.out h0
 subst h0
 obtain⟨b,rfl,hup⟩:=HUP.out rfl
 have HUV:=zh hup
 clear hup HUP HV1
 go_upto_region 4 with fail
 generalize w1.alloc (.cells #[.pointer (some ⟨b,0,none⟩)] 59)=w2 at *
 obtain⟨gc,hgc⟩:∃ gc,w1.heap.size=gc:=⟨_,rfl⟩
 rw [hgc]at HN1
 simp only [hgc]
 clear hgc
 have HHC:=zh (HHS.out w2 b gc trivial HB1.out.bel HUV.out HN1.out)
 have hgl:=World.block_lt_of_cell? _ _ HN1.out
 simp only at hgl
 generalize hq:(M.any fun p=>!decide (p∈movesP f t))=q at *
 clear HHS hq
 go_wp2_with fail
 refine HHC.out.mono ?_
 rintro e w3 ⟨rfl,hb3⟩
 have HB3:=zh (HB1.out.below hb3)
 have HUV3:=zh (HUV.out.below hb3)
 have n1:=(hb3.cell (p:=⟨gc,0,none⟩) hgl).trans HN1.out
 clear hb3 HHC HB1 HUV HN1 hgl
 cases q with
 | true =>
  have HV:=zh (HV2.out trivial rfl)
  clear HV2 HV3 HBT HSO n1
  go_wp2_with fail
  go_ret2
  exact BtwR.no HB3.out.bel HV.out (by decide)
 | false =>
  have HV:=zh (HV3.out trivial rfl)
  have HBC:=zh (HBT.out w3 b trivial HB3.out.bel HUV3.out)
  clear HV2 HV3 HBT HUV3
  go_wp2_with fail
  refine HBC.out.mono ?_
  rintro e w4 ⟨r,l,rfl,hpl,hpw,hsl,hb4⟩
  have hl:=HSO.out trivial l hpl hpw
  subst hl
  have HB4:=zh (HB3.out.below hb4)
  have HSL:Hid (SelsOf w4.heap.size r (btwS X f t M) w4):=zh (by unfold btwS;rw [HV.out,if_pos rfl];exact hsl)
  clear hpl hpw hsl hb4 n1
  go_wp2_with fail
  go_ret2
  exact⟨r,by rw [HV.out];rfl,HSL.out,HB4.out.bel⟩
section
open Go.Proofs.Tryz Go Go.RowKit

end
section
open Go.Proofs.Tryz Go Go.RowKit
theorem z60 {α:Type} [Inhabited α] {A B:List α}{i:Nat}(hA:i<A.length)(hB:i<B.length)(h:A.take i=B.take i)(he:A[i]=B[i]):A.take (i+1)=B.take (i+1):=by
 rw [zs hA,zs hB,h,he]
theorem zey {α:Type}{A B:List α}{i:Nat}(hA:i<A.length)(hB:i<B.length)(he:A[i]≠B[i]):A≠B:=fun e=>by subst e;exact he rfl
end
section
open Go.Proofs.Tryz Go Go.RowKit
theorem z7c {B:Nat}{v:Value}{S:List (List ByteArray)}{W:World}(h:NamesOf B v S W):∃ a c,v=.slice a S.length c:=by
 obtain⟨a,c,e,_⟩:=h
 exact⟨a,c,e⟩
theorem zbq {B:Nat}{v:Value}{S:List (List ByteArray)}{W:World}(h:NamesOf B v S W)(i:Nat)(hi:i<S.length):∃ b off cap,v=.slice (some ⟨b,off,none⟩) S.length cap∧b<B∧∃ r,W.cell? ⟨b,off+i,none⟩=some r∧RowOf Value.string B r (S.getD i []) W:=by
 obtain⟨a,c,rfl,h⟩:=h
 obtain⟨b,off,r,rfl,h2,h3,h4⟩:=h i (S.getD i []) (by rw [zg,ze hi];rfl)
 exact⟨b,off,c,rfl,h2,r,h3,h4⟩
theorem z85 (a b:Value)(A B:List (List ByteArray))(w:World)(hA:NamesOf w.heap.size a A w)(hB:NamesOf w.heap.size b B w)(hAl:A.length≤1000000000) (_hBl:B.length≤1000000000)(hAr:∀ i,(A.getD i []).length≤1000000000)(hBr:∀ i,(B.getD i []).length≤1000000000) :
  Calls prog 17 #[a,b] w fun e w'=>e=.returned (.bool (decide (A=B)))∧Below w.heap.size w w':=by
 obtain⟨aa,ac,rfl⟩:=z7c hA
 obtain⟨ba,bc,rfl⟩:=z7c hB
 have HA:=zh hA
 have HB:=zh hB
 have HAR:=zh hAr
 have HBR:=zh hBr
 clear hA hB hAr hBr
 by_cases hlen:A.length=B.length
 case neg =>
  have hd:decide (A=B)=false:=decide_eq_false (fun e=>hlen (by rw [e]))
  rw [hd]
  have hl2:¬ (A.length:Int)=(B.length:Int):=by omega
  have hl3:decide ((A.length:Int)=(B.length:Int))=false:=decide_eq_false hl2
  clear hd hlen
  go_enter func17,ntmps17
  go_wp2_with fail
  go_ret
  exact⟨rfl,Below.refl _ _⟩
 case pos =>
  obtain⟨N,hN⟩:∃ N,N=A.length:=⟨_,rfl⟩
  have hNB:B.length=N:=by omega
  rw [← hN,hNB]
  have HLA:=zh hN
  have HLB:=zh hNB
  clear hlen
  have hNl:N≤1000000000:=by omega
  clear hN hNB hAl
  go_enter func17,ntmps17
  go_wp2_with fail
  go_loopw [5] (fun q wr=>∃ i:Nat,i≤N∧q=.int .i64 i∧Hid (A.take i=B.take i)∧Hid (Below w.heap.size w wr)) (fun q _=>N - (intOf q).toNat)
  case atStart=>exact⟨0,by omega,rfl,zh (by simp),zh (Below.refl _ _)⟩
  case round =>
   obtain⟨i,hi,rfl,HT,HW⟩:=hrel
   by_cases hlt:i<N
   ·have hi0:(0:Int)≤(i:Int):=by omega
    have hi1:(i:Int)<(N:Int):=by omega
    have hiA:i<A.length:=by rw [← HLA.out];exact hlt
    have hiB:i<B.length:=by rw [HLB.out];exact hlt
    obtain⟨b1,o1,c1,hv1,hb1,r1,hr1,hrow1⟩:=zbq HA.out i hiA
    obtain⟨b2,o2,c2,hv2,hb2,r2,hr2,hrow2⟩:=zbq HB.out i hiB
    rw [← HLA.out]at hv1
    rw [HLB.out]at hv2
    cases hv1
    cases hv2
    have hx1:=HAR.out i
    have hx2:=HBR.out i
    have hg1:A.getD i []=A[i]:=by rw [zg,ze hiA];rfl
    have hg2:B.getD i []=B[i]:=by rw [zg,ze hiB];rfl
    have HNX:Hid (A.getD i []=B.getD i []→A.take (i+1)=B.take (i+1)):=zh fun h=>z60 hiA hiB HT.out (by rw [← hg1,← hg2];exact h)
    have HNE:Hid (A.getD i []≠B.getD i []→decide (A=B)=false):=zh fun h=>decide_eq_false (zey hiA hiB (by rw [← hg1,← hg2];exact h))
    obtain⟨x1,hx1e⟩:∃ x,x=A.getD i []:=⟨_,rfl⟩
    obtain⟨x2,hx2e⟩:∃ x,x=B.getD i []:=⟨_,rfl⟩
    rw [← hx1e]at hrow1 hx1 HNX HNE
    rw [← hx2e]at hrow2 hx2 HNX HNE
    clear hx1e hx2e hg1 hg2 hiA hiB
    obtain⟨ra1,rc1,rfl,hq1⟩:=z01 hrow1
    obtain⟨ra2,rc2,rfl,hq2⟩:=z01 hrow2
    have HQ1:=zh hq1
    have HQ2:=zh hq2
    clear hrow1 hrow2 hq1 hq2
    have hs1:=(HW.out.cell (p:=⟨b1,o1+i,none⟩) hb1).trans hr1
    have hs2:=(HW.out.cell (p:=⟨b2,o2+i,none⟩) hb2).trans hr2
    by_cases hle:x1.length=x2.length
    ·have hled:decide ((x1.length:Int)=(x2.length:Int))=true:=decide_eq_true (by omega)
     obtain⟨M,hM⟩:∃ M,M=x1.length:=⟨_,rfl⟩
     have hM2:x2.length=M:=by omega
     rw [← hM]at hr1 hx1 hs1
     rw [hM2]at hr2 hs2
     have HR1:=zh hr1
     have HR2:=zh hr2
     clear hr1 hr2
     have HM1:=zh hM
     have HM2:=zh hM2
     clear hled hle hx2 hM hM2
     go_wp2_with fail
     go_quiet (fail)
     go_wp2_with fail
     obtain⟨wo,rfl⟩:∃ wo:World,wo=wr:=⟨_,rfl⟩
     go_loopw [6] (fun q wr=>∃ j:Nat,j≤M∧q=.int .i64 j∧Hid (x1.take j=x2.take j)∧Hid (Below w.heap.size w wr)) (fun q _=>M - (intOf q).toNat)
     case atStart=>exact⟨0,by omega,rfl,zh (by simp),zh ⟨HW.out.os,HW.out.tape,HW.out.output,HW.out.size,HW.out.block⟩⟩
     case round =>
      clear hs1 hs2
      obtain⟨j,hj,rfl,HTJ,HWJ⟩:=hrel
      have hs1:=(HWJ.out.cell (p:=⟨b1,o1+i,none⟩) hb1).trans HR1.out
      have hs2:=(HWJ.out.cell (p:=⟨b2,o2+i,none⟩) hb2).trans HR2.out
      by_cases hjl:j<M
      ·have hj0:(0:Int)≤(j:Int):=by omega
       have hj1:(j:Int)<(M:Int):=by omega
       have hl1:j<x1.length:=by rw [← HM1.out];exact hjl
       have hl2:j<x2.length:=by rw [HM2.out];exact hjl
       obtain⟨d1,e1,rfl,hd1,hc1⟩:=HQ1.out j x1[j] (by simp [hl1])
       obtain⟨d2,e2,rfl,hd2,hc2⟩:=HQ2.out j x2[j] (by simp [hl2])
       have hc1:=(HWJ.out.cell (p:=⟨d1,e1+j,none⟩) hd1).trans hc1
       have hc2:=(HWJ.out.cell (p:=⟨d2,e2+j,none⟩) hd2).trans hc2
       have HNJ:Hid (x1[j]=x2[j]→x1.take (j+1)=x2.take (j+1)):=zh fun h=>z60 hl1 hl2 HTJ.out h
       have HEJ:Hid (x1[j]≠x2[j]→decide (A=B)=false):=zh fun h=>HNE.out (zey hl1 hl2 h)
       generalize x1[j]=y1 at *
       generalize x2[j]=y2 at *
       by_cases hxy:y1=y2
       ·have hxyd:(y1.toList == y2.toList)=true:=by rw [z0q];exact decide_eq_true hxy
        have hxy2:y1=y2:=hxy
        have HXY:=zh (HNJ.out hxy2)
        subst hxy2
        clear HNJ HEJ hl1 hl2
        go_wp2_with fail
        go_quiet (fail)
        go_wp2_with fail
        go_roundw
        case rel=>exact⟨j+1,by omega,by go_num,HXY,zh ⟨HWJ.out.os,HWJ.out.tape,HWJ.out.output,HWJ.out.size,HWJ.out.block⟩⟩
        case measure=>simp [intOf];omega
       ·have hxyd:(y1.toList == y2.toList)=false:=by rw [z0q];exact decide_eq_false hxy
        have HD:=zh (HEJ.out hxy)
        clear HNJ HEJ hl1 hl2
        go_wp2_with fail
        go_quiet (fail)
        go_wp2_with fail
        go_ret
        exact⟨by rw [HD.out];rfl,⟨HWJ.out.os,HWJ.out.tape,HWJ.out.output,HWJ.out.size,HWJ.out.block⟩⟩
      ·have hjj:j=M:=by omega
       subst hjj
       have HX:=zh (HNX.out (by
        have:=HTJ.out
        rw [List.take_of_length_le (by rw [← HM1.out];exact zq _),List.take_of_length_le (by rw [HM2.out];exact zq _)]at this
        exact this))
       go_wp2_with fail
       go_roundw
       case rel=>exact⟨i+1,by omega,by go_num,HX,HWJ⟩
       case measure=>simp [intOf];omega
    ·have hled:decide ((x1.length:Int)=(x2.length:Int))=false:=decide_eq_false (by omega)
     have HD:=zh (HNE.out (fun e=>hle (by rw [e])))
     go_wp2_with fail
     go_quiet (fail)
     go_wp2_with fail
     go_ret
     exact⟨by rw [HD.out];rfl,⟨HW.out.os,HW.out.tape,HW.out.output,HW.out.size,HW.out.block⟩⟩
   ·have hii:i=N:=by omega
    subst hii
    have HE:Hid (decide (A=B)=true):=zh (decide_eq_true (by
     have:=HT.out
     rw [List.take_of_length_le (by rw [← HLA.out];exact zq _),List.take_of_length_le (by rw [HLB.out];exact zq _)]at this
     exact this))
    go_wp2_with fail
    go_ret
    exact⟨by rw [HE.out];rfl,HW.out⟩
end
theorem zfs (v1 v2:Value)(L1 L2:List ByteArray)(w:World)(h1l:L1.length≤1000000000)(h2l:L2.length≤1000000000)(h1:RowOf Value.string w.heap.size v1 L1 w)(h2:RowOf Value.string w.heap.size v2 L2 w) :
  Calls prog 15 #[v1,v2] w fun e w'=>e=.returned (.bool (decide (L1=L2)))∧Below w.heap.size w w':=by
 rcases h1 with ⟨rfl,a1,c1,rfl⟩ | ⟨b1,o1,c1,rfl,hb1,h1⟩
 ·obtain⟨a2,c2,rfl,_⟩:=z01 h2
  refine(Tryz.slices_Equal_string_empty a1 a2 c1 L2.length c2 w (by omega)).mono ?_
  rintro e w' ⟨rfl,rfl⟩
  refine⟨?_,Below.refl _ _⟩
  congr 2
  cases L2 with
  | nil=>rfl
  | cons x L=>simp
 ·rcases h2 with ⟨rfl,a2,c2,rfl⟩ | ⟨b2,o2,c2,rfl,hb2,h2⟩
  ·cases L1 with
   | nil =>
    refine(Tryz.slices_Equal_string_empty (some ⟨b1,o1,none⟩) a2 c1 0 c2 w (by omega)).mono ?_
    rintro e w' ⟨rfl,rfl⟩
    exact⟨rfl,Below.refl _ _⟩
   | cons x L =>
    refine(Tryz.slices_Equal_string_lens (some ⟨b1,o1,none⟩) a2 (x::L).length c1 0 c2 w (by simp)).mono ?_
    rintro e w' ⟨rfl,rfl⟩
    exact⟨by simp,Below.refl _ _⟩
  ·refine(Tryz.slices_Equal_string b1 o1 L1.length c1 b2 o2 L2.length c2 L1 L2 w (zq _) (zq _) (by omega) (by omega) (fun j hj=>by
    have:=h1 j L1[j] (by simp [hj])
    rw [this,zg,ze hj]
    rfl) (fun j hj=>by
    have:=h2 j L2[j] (by simp [hj])
    rw [this,zg,ze hj]
    rfl)).mono ?_
   rintro e w' ⟨rfl,q,rfl⟩
   exact⟨by rw [List.take_length,List.take_length],below_drewN (Below.refl _ _) q⟩
theorem z2d {w:World}{ops:Array Oper}{rest:List Oper}{o:Oper}{a:Act}{Q:Exit→Act→World→Prop}(hgd:o.guard=none)(s x:Operand)
  (ho:o.op=.call { callee:=.builtin .append,args:=#[s,x],argTypes:=#[29,29] })
  (base:Nat) (v:Value) (n:Nat) (L:List ByteArray) (hs:a.eval s=v) (hown:w.ownsRow base 9 1 v n (strsC L)) (r:Value) (M:List ByteArray) (hx:a.eval x=r) (hM:RowOf Value.string w.heap.size r M w)
  (hb:n+M.length≤100000000) (hbase:base≤w.heap.size)
  (h:∀ v' w',w'.ownsRow base 9 1 v' (n+M.length) (strsC (L++M))→w.grownBy w' v.ownBlock→wpList prog ops Q rest (a.put o.dst v') w'):wpList prog ops Q (o::rest) a w:=by
 obtain⟨i0,hi,hz0,hz1,hz2⟩:=info_parts z1z
 obtain⟨ao,cap,rfl,hE⟩:=z01 hM
 cases ao with
 | none =>
  have h0:M=[]:=by
   cases M with
   | nil=>rfl
   | cons y M=>obtain⟨b,off,h1,_⟩:=hE 0 y rfl;cases h1
  subst h0
  refine wpList_plain hgd fun K hK=>?_
  have hrun:=z2a (P:=prog) (w:=w) base 29 o.type 9 i0 1 underlying29 hi v n _ hown cap
  unfold Oper.wp
  simp [execOp,ho,resolve,invoke,builtin,hs,hx,hrun,Result.andThen]
  exact hK _ _ (h v w (by simpa using hown) (World.grownBy.refl w _))
 | some ad =>
  refine wpList_append_own _ hgd s x 29 ho base 9 i0 _ 1 16 underlying29 hi hz0 hz1 hz2 rfl (by decide) v n _ hs hown ad M.length cap (strsC M) hx (by unfold strsC;rw [List.length_map,Nat.mul_one]) (fun j u hu=>?_) (fun u hu=>?_) (by unfold maxLen;omega) (by omega) hbase (fun v' w' h1 h2 _=>h v' w' (by unfold strsC at h1 ⊢;rw [List.map_append];exact h1) h2)
  ·unfold strsC at hu
   rw [List.getElem?_map]at hu
   cases hj:M[j]? with
   | none=>rw [hj]at hu;cases hu
   | some p =>
    rw [hj]at hu
    cases hu
    obtain⟨b,off,h1,_,h3⟩:=hE j p hj
    cases h1
    rw [Addr.add_lit]
    exact h3
  ·obtain⟨p,_,rfl⟩:=List.mem_map.1 hu
   rfl
section
open Go.Proofs.Tryz Go Go.RowKit Go.Shelf Go.Lib
def sortedRenS:Ren:=⟨fun x=>if x=11 then 48 else if x=19 then 78 else 110,fun x=>if x=0 then 0 else if x=3 then 3 else if x=4 then 4 else if x=25 then 29 else 9,fun x=>x⟩
theorem sortedLaysS:SlLaysO.n11 prog sortedRenS:={
 mixed:=by kernel_rfl
 f11:=⟨Tryz.f48.name,by decide,func48.trans (congrArg some (by kernel_rfl))⟩
 f19:=⟨Tryz.f78.name,by decide,func78.trans (congrArg some (by kernel_rfl))⟩
 f25:=⟨Tryz.f110.name,by decide,func110.trans (congrArg some (by kernel_rfl))⟩
 t0:=underlying0
 a0:=isAgg0
 z0:=sizeOf0
 v0:=zeroValue0
 t3:=underlying3
 a3:=isAgg3
 z3:=sizeOf3
 v3:=zeroValue3
 t4:=underlying4
 a4:=isAgg4
 z4:=sizeOf4
 v4:=zeroValue4
 t25:=underlying29
 a25:=isAgg29
 z25:=sizeOf29
 v25:=zeroValue29
 t27:=underlying9
 a27:=isAgg9
 z27:=sizeOf9
 v27:=zeroValue9 }
def sortB (l:List ByteArray):Bool:=Lib.downOK (fun x y:ByteArray=>decide (x.data.toList<y.data.toList)) l.toArray (l.length - 1)
theorem zdv (v:Value)(l:List ByteArray)(w:World)(hl:l.length≤1000000000)(h:RowOf Value.string w.heap.size v l w) :
  Calls prog 48 #[v] w fun e w'=>e=.returned (.bool (sortB l))∧Below w.heap.size w w':=by
 rcases h with ⟨rfl,a,c,rfl⟩ | ⟨b,off,cap,rfl,_,h⟩
 ·have hc:=AnyO.slices_IsSorted_string_none sortedLaysS a c w
  refine hc.mono ?_
  rintro e w' ⟨rfl,rfl⟩
  exact⟨rfl,Below.refl _ _⟩
 ·have hsz:l.toArray.size=l.length:=by simp
  have hc:=AnyO.slices_IsSorted_string sortedLaysS b off cap l.toArray w (fun i hi=>by
   rw [getElem!_pos _ i hi]
   exact h i l[i] (by simp at hi;simp [hi])) (by rw [hsz];omega)
  rw [hsz]at hc
  refine hc.mono ?_
  rintro e w' ⟨rfl,q,rfl⟩
  exact⟨rfl,below_drewN (Below.refl _ _) q⟩
theorem zde (a b:ByteArray):ltB a b=decide (a.data.toList<b.data.toList):=by
 have e:∀ x:ByteArray,x.toList=x.data.toList:=fun x=>z4b x
 unfold ltB
 rw [e,e]
 exact bytesLess_eq _ _
theorem zcf (l:List ByteArray):sortB l=true ↔ ∀ i,i+1<l.length→ltB (l.getD (i+1) default) (l.getD i default)=false:=by
 unfold sortB
 rw [Lib.downOK_iff]
 have hg:∀ i,i<l.length→l.toArray[i]! = l.getD i default:=fun i hi=>by
  rw [getElem!_pos _ i (by simpa using hi),zg,ze hi]
  simp
 constructor
 ·intro h i hi
  have:=h i (by omega)
  rw [hg i (by omega),hg (i+1) hi]at this
  rw [zde]
  exact this
 ·intro h i hi
  rw [hg i (by omega),hg (i+1) (by omega)]
  have h2:=h i (by omega)
  rw [zde]at h2
  exact h2
end
section
open Go.Proofs.Tryz Go Go.Lib
def sortL (l:List ByteArray):List ByteArray:=((l.map fun p=>p.data.toList).mergeSort fun x y=>decide (x≤y)).map fun x=>⟨x.toArray⟩
theorem z91 (l:List ByteArray):(sortL l).Perm l:=by
 have hp:=(List.mergeSort_perm (l.map fun p=>p.data.toList) (fun x y=>decide (x≤y))).map (fun x:List UInt8=>(⟨x.toArray⟩:ByteArray))
 have e:(l.map fun p=>p.data.toList).map (fun x:List UInt8=>(⟨x.toArray⟩:ByteArray))=l:=by
  rw [List.map_map]
  exact(List.map_congr_left fun p _=>rfl).trans (List.map_id l)
 rw [e]at hp
 exact hp
theorem zgn (l:List ByteArray):(sortL l).Pairwise fun a b=>ltB b a=false:=by
 have hs:=List.pairwise_mergeSort (le:=fun(x y:List UInt8)=>decide (x≤y)) (fun a b c h1 h2=>by
  simp only [decide_eq_true_eq]at *
  exact List.le_trans h1 h2) (fun a b=>by
  have:=List.le_total a b
  simpa using this) (l.map fun p=>p.data.toList)
 unfold sortL
 rw [List.pairwise_map]
 refine hs.imp fun {a b} h=>?_
 rw [zde]
 simp only [decide_eq_true_eq]at h
 exact decide_eq_false (List.not_lt.2 h)
theorem IncB.nodupW {l:List ByteArray}(h:IncB l):l.Nodup:=h.imp fun {a b} hab e=>by rw [e,z0c]at hab;cases hab
theorem z9s {l:List ByteArray}(h:l.Pairwise fun a b=>ltB b a=false)(hn:l.Nodup):IncB l:=(h.and hn).imp fun {a b} ⟨h1,h2⟩=>by
 cases h:ltB a b with
 | true=>rfl
 | false=>exact absurd (z2i h h1) h2
theorem z9h:∀ {l:List ByteArray},(∀ i,i+1<l.length→ltB (l.getD (i+1) default) (l.getD i default)=false)→l.Pairwise fun a b=>ltB b a=false
 | [],_=>List.Pairwise.nil
 | [a],_=>List.pairwise_singleton _ _
 | a::b::l,h=>by
  have ih:=z9h (l:=b::l) (fun i hi=>h (i+1) (by simp at hi ⊢;omega))
  have h0:ltB b a=false:=h 0 (by simp)
  refine List.pairwise_cons.2 ⟨fun c hc=>?_,ih⟩
  rcases List.mem_cons.1 hc with rfl | hc
  ·exact h0
  ·have h1:=(List.pairwise_cons.1 ih).1 c hc
   cases h2:ltB c a with
   | false=>rfl
   | true =>
    cases h3:ltB a b with
    | true=>rw [z1o h2 h3]at h1;cases h1
    | false=>rw [z2i h3 h0]at h2;rw [h2]at h1;cases h1
theorem zgm {l:List ByteArray}(h:sortB l=true):l.Pairwise fun a b=>ltB b a=false:=z9h ((zcf l).1 h)
theorem ziy {l:List ByteArray}(h:IncB l):sortB l=true:=(zcf l).2 fun i hi=>z1n (h.at (Nat.lt_succ_self i) hi)
theorem zj5 {α:Type}{L:List (List α)}{l:List α}(h:L.flatten.Nodup)(hl:l∈L):l.Nodup:=(List.sublist_flatten_of_mem hl).nodup h
theorem z8t {ms:List ByteArray}{plan:List (List ByteArray)}(hi:IncB ms):((∀ l∈plan,l≠[]∧sortB l=true)∧sortL plan.flatten=ms) ↔ ((∀ l∈plan,l≠[]∧IncB l)∧plan.flatten.Nodup∧∀ p,p∈plan.flatten ↔ p∈ms):=by
 constructor
 ·rintro⟨h1,h2⟩
  have hp:=z91 plan.flatten
  rw [h2]at hp
  have hn:plan.flatten.Nodup:=hp.nodup_iff.1 hi.nodupW
  exact⟨fun l hl=>⟨(h1 l hl).1,z9s (zgm (h1 l hl).2) (zj5 hn hl)⟩,hn,fun p=>(hp.mem_iff).symm⟩
 ·rintro⟨h1,h2,h3⟩
  refine⟨fun l hl=>⟨(h1 l hl).1,ziy (h1 l hl).2⟩,?_⟩
  have hp:=z91 plan.flatten
  exact IncB.unique (z9s (zgn _) (hp.nodup_iff.2 h2)) hi fun p=>(hp.mem_iff).trans (h3 p)
end
def HeldX (g:Nat)(v iv:Value)(W:World):Prop:=W.cell? ⟨g,0,none⟩=some v∧W.cell? ⟨g,1,none⟩=some iv
theorem z6y {L:List (List ByteArray)}{k:Nat}(hk:k<L.length):(L.take (k+1)).flatten=(L.take k).flatten++L[k]:=by
 rw [zs hk,List.flatten_append];simp
theorem zd4 {L:List (List ByteArray)}(k:Nat):(L.take k).flatten.length≤L.flatten.length:=by
 have h:L.flatten=(L.take k).flatten++(L.drop k).flatten:=by rw [← List.flatten_append,List.take_append_drop]
 rw [h,List.length_append];omega
theorem za2 {ao:Option Addr}{cap:Nat}{L:List (List ByteArray)}{w W:World}(h:NamesOf w.heap.size (.slice ao L.length cap) L w)(hb:Below w.heap.size w W){k:Nat}(hk:k<L.length) :
  ∃ b off r,ao=some ⟨b,off,none⟩∧W.cell? ⟨b,off+k,none⟩=some r∧RowOf Value.string W.heap.size r L[k] W:=by
 obtain⟨a,c,e,h⟩:=h
 cases e
 obtain⟨b,off,r,h1,h2,h3,h4⟩:=h k _ (ze hk)
 exact⟨b,off,r,h1,(hb.cell (p:=⟨b,off+k,none⟩) h2).trans h3,(h4.below hb (zq _)).mono hb.size⟩
theorem z4p (a:Option Addr)(n c:Nat)(W:World):(Builtin.len_ #[36] 3 #[.slice a n c]).run prog W=.ok (.int .i64 (n:Int)) W:=by
 simp [Builtin.len_,run_underlying underlying36,goInt,Result.andThen]
theorem zdo {X:List RelL}{f t:List SelL}{L:List (List ByteArray)}(h0:errW X f t=0)(h1:(∀ l∈L,l≠[]∧sortB l=true)∧sortL L.flatten=movesP f t) :
  (∀ k,k<L.length→consV X (betV f t (L.take (k+1)).flatten)≠0→planV X f t L=17)∧((∀ k,k<L.length→consV X (betV f t (L.take (k+1)).flatten)=0)→planV X f t L=0):=by
 have hp:=(z8t (z1r (z0f (z04 h0).1).2.1 (z0f (z04 h0).2).2.1)).1 h1
 constructor
 ·intro k hk hc
  unfold planV
  rw [if_neg (fun g=>g h0),if_neg (fun g=>g hp),if_pos ⟨k,hk,fun g=>hc (z0b.2 g)⟩]
 ·intro hc
  unfold planV
  rw [if_neg (fun g=>g h0),if_neg (fun g=>g hp),if_neg (fun⟨k,hk,g⟩=>g (z0b.1 (hc k hk)))]
theorem zl9 {L:List (List ByteArray)}{k:Nat}{p:ByteArray}(h:p∈(L.take k).flatten):p∈L.flatten:=by
 obtain⟨l,hl,hp⟩:=List.mem_flatten.1 h
 exact List.mem_flatten.2 ⟨l,List.mem_of_mem_take hl,hp⟩
theorem bet_bd {f t:List SelL}{m:List ByteArray}(hf:∀ y∈f,SelBd y)(ht:∀ y∈t,SelBd y):∀ y∈betV f t m,SelBd y:=fun y hy=>by
 have h:=z21.1 hy
 split at h
 ·exact ht _ (z02 h).1
 ·exact hf _ (z02 h).1
theorem zlr {f t l:List SelL}{M:List ByteArray}(h:l.Perm (oldK f M f.length++newK t M t.length)):l.length≤f.length+t.length:=by
 rw [h.length_eq,List.length_append]
 unfold oldK newK
 rw [List.take_length,List.take_length]
 have h1:=List.length_filter_le (fun y:SelL=>!decide (y.1∈M)) f
 have h2:=List.length_filter_le (fun y:SelL=>decide (y.1∈M)) t
 omega
theorem zgy (v iv fv tv mv:Value)(X:List RelL)(f t:List SelL)(L:List (List ByteArray))(w:World)(hm:MaxOk w)(hX:X.length≤1000000)(hq:∀ x∈X,RelBd x)(hR:RelsOf w.heap.size v X w)
  (hf:f.length≤400000) (hfy:∀ y∈f,SelBd y) (hF:SelsOf w.heap.size fv f w) (ht:t.length≤400000) (hty:∀ y∈t,SelBd y) (hT:SelsOf w.heap.size tv t w)
  (hLl:L.length≤1000000) (hFl:L.flatten.length≤1000000) (hLp:∀ p∈L.flatten,p.size≤maxLen) (hM:NamesOf w.heap.size mv L w) :
  Calls prog 22 #[.agg #[v,iv],fv,tv,mv] w fun e w'=>e=.returned (.int .i64 (planV X f t L))∧Below w.heap.size w w':=by
 have HU:=zh (fun W (hb:RowKit.Below w.heap.size w W)=>z2k v iv fv tv X f t W (hm.below hb hm.pos) hX hq (hR.on hb) (by omega) hfy (hF.on hb) (by omega) hty (hT.on hb))
 have HV1:Hid (errW X f t≠0→planV X f t L=errW X f t):=zh (fun h=>by unfold planV;rw [if_pos h])
 have HV2:Hid (errW X f t=0→¬ ((∀ l∈L,l≠[]∧sortB l=true)∧sortL L.flatten=movesP f t)→planV X f t L=1):=zh (fun h h2=>by
  unfold planV
  rw [if_neg (fun g=>g h),if_pos (fun g=>h2 ((z8t (z1r (z0f (z04 h).1).2.1 (z0f (z04 h).2).2.1)).2 g))])
 obtain⟨va,vn,vc,rfl⟩:∃ a n c,v=.slice a n c:=by obtain⟨a,c,_,e,_⟩:=hR.rv;exact⟨_,_,_,e⟩
 obtain⟨fa,fc,rfl⟩:=zo hF
 obtain⟨ta,tc,rfl⟩:=zo hT
 obtain⟨ma,mc,rfl⟩:=zo hM
 have HBT:Hid (∀ k,errW X f t=0→∀ g W,Below w.heap.size w W→UpV X f t (movesP f t) g W→∀ mv,RowOf Value.string W.heap.size mv (L.take k).flatten W→Calls prog 45 #[.pointer (some ⟨g,0,none⟩),mv] W fun e w'=>∃ v,e=.returned v∧SelsOf w'.heap.size v (betV f t (L.take k).flatten) w'∧Below W.heap.size W w'∧(betV f t (L.take k).flatten).length≤f.length+t.length):=zh (fun k h0 g W hb hU mv hr=>by
  refine(z6p X f t (movesP f t) (by omega) (by omega) (fun y hy=>(hfy y hy).path) (fun y hy=>(hty y hy).path) g W hU mv (L.take k).flatten (Nat.le_trans (zd4 k) hFl) (fun p hp=>hLp p (zl9 hp)) hr).mono ?_
  rintro e w' ⟨v,l,rfl,h1,h2,h3,h4⟩
  have hl:=zea (z0f (z04 h0).1).2.1 (z0f (z04 h0).2).2.1 h1 h2
  subst hl
  exact⟨v,rfl,h3,h4,zlr h1⟩)
 have HCS:Hid (∀ k,(betV f t (L.take k).flatten).length≤f.length+t.length→∀ W,Below w.heap.size w W→∀ sv,SelsOf W.heap.size sv (betV f t (L.take k).flatten) W→Calls prog 13 #[.agg #[.slice va vn vc,iv],sv] W fun e w'=>e=.returned (.int .i64 (consV X (betV f t (L.take k).flatten)))∧Below W.heap.size W w'):=zh (fun k hk W hb sv hS=>z44 (.slice va vn vc) iv sv X (betV f t (L.take k).flatten) W (hm.below hb hm.pos) hX hq (hR.on hb) (by omega) (bet_bd hfy hty) hS)
 have HPF:Hid (errW X f t=0→(∀ l∈L,l≠[]∧sortB l=true)∧sortL L.flatten=movesP f t→(∀ k,k<L.length→consV X (betV f t (L.take (k+1)).flatten)≠0→planV X f t L=17)∧((∀ k,k<L.length→consV X (betV f t (L.take (k+1)).flatten)=0)→planV X f t L=0)):=zh (fun h0 h1=>zdo h0 h1)
 have HMS:Hid ((movesP f t).length≤1000000000):=zh (by have:=z1s f t;omega)
 have HF9:Hid (L.flatten.length≤1000000000):=zh (by omega)
 have HFX:Hid (∀ k,(L.take k).flatten.length≤1000000):=zh (fun k=>Nat.le_trans (zd4 k) hFl)
 have HNM:=zh hM
 clear hm hq hR hF hT hfy hty hM hLp
 have HB0:=zh (IdxBx.start w (.slice va vn vc) iv)
 unfold UpgR at HU
 obtain⟨E,hE⟩:∃ E,errW X f t=E:=⟨_,rfl⟩
 rw [hE]at HU HV1 HV2 HBT HPF
 clear hE
 go_enter func22,ntmps22
 go_upto_region 1 with fail
 generalize w.alloc (.cells #[.slice va vn vc,iv] 25)=W at *
 have c0:=HB0.out.c0
 have c1:=HB0.out.c1
 go_wp2_with fail
 refine(HU.out _ HB0.out.bel).mono ?_
 rintro e w1 ⟨hb1,g,rfl,hg⟩
 have HB1:=zh (HB0.out.below hb1)
 have HUP:=zh hg
 clear hb1 hg c0 c1 HU HB0
 by_cases h0:E=0
 case neg =>
  have h0b:(E != 0)=true:=by simpa using h0
  have HV:=zh (HV1.out h0)
  go_wp2_with fail
  go_ret
  exact⟨by rw [HV.out];rfl,HB1.out.bel⟩
 subst h0
 obtain⟨b,rfl,hup⟩:=HUP.out rfl
 have HUV:=zh hup
 clear hup HUP HV1
 obtain⟨i0,hi0,hz0,hz1,hz2⟩:=info_parts z1z
 have hln:=z4p ma L.length mc w1
 go_wp2_with fail
 try rw [hln]
 clear hln
 go_wp2_with fail
 go_loopw [11,29] (fun ov p wr=>Hid (∃ (k:Nat),k≤L.length∧p=.int .i64 (k:Int)∧wr.ownsRow w1.heap.size 9 1 ov (L.take k).flatten.length (strsC (L.take k).flatten)∧(∀ l∈L.take k,l≠[]∧sortB l=true)∧Below w1.heap.size w1 wr)) (fun _ p _=>L.length - (intOf p).toNat)
 case atStart=>exact zh ⟨0,Nat.zero_le _,rfl,World.ownsRow_nil _ _ _ _,fun l hl=>by(rw [List.take_zero]at hl;cases hl),Below.refl _ _⟩
 case round =>
  obtain⟨k,hk,rfl,ho,hgd,hb⟩:=hrel.out
  have HO:=zh ho
  have HB:=zh hb
  have HGD:=zh hgd
  obtain⟨oa,oc,rfl⟩:=z05 ho
  clear hrel ho hb hgd
  have hs8:=HB.out.size
  have HBW:=zh (HB1.out.bel.trans (HB.out.mono HB1.out.bel.size))
  by_cases hlt:k<L.length
  case pos =>
   have hk0:(0:Int)≤(k:Int):=Int.natCast_nonneg k
   have hkz:(k:Int)<(L.length:Int):=Int.ofNat_lt.2 hlt
   obtain⟨b2,off,r,rfl,d0,hr⟩:=za2 HNM.out HBW.out hlt
   have HLM:Hid (L[k]∈L):=zh (List.getElem_mem hlt)
   have HFT:=zh (z6y hlt)
   have hfl:=zd4 (L:=L) (k+1)
   rw [HFT.out,List.length_append]at hfl
   have HTK:Hid (L.take (k+1)=L.take k++[L[k]]):=zh (zs hlt)
   generalize L[k]=row at *
   have HRW:=zh hr
   obtain⟨ra,rc,rfl,_⟩:=z01 hr
   have HIS:=zh (zdv _ row wr (by omega) HRW.out)
   clear hr
   by_cases hz:row=[]
   case pos =>
    have HV:Hid (planV X f t L=1):=zh (HV2.out trivial (fun g=>(g.1 row HLM.out).1 hz))
    subst hz
    simp only [List.length_nil]at *
    clear HIS hfl
    go_wp2_with fail
    go_ret
    exact⟨by rw [HV.out];rfl,HBW.out⟩
   case neg =>
    have hzl:0<row.length:=List.length_pos_iff.2 hz
    have hz1:((row.length:Int) == 0)=false:=by simp;exact hz
    have hz2:¬ (row.length:Int)=0:=by omega
    have hz3:decide ((row.length:Int)=0)=false:=decide_eq_false hz2
    have HNE:=zh hz
    clear hz
    have HV:Hid (sortB row=false→planV X f t L=1):=zh (fun h=>HV2.out trivial (fun g=>by have:=(g.1 row HLM.out).2;rw [h]at this;cases this))
    obtain⟨sb,hsb⟩:∃ sb,sortB row=sb:=⟨_,rfl⟩
    rw [hsb]at HIS HV
    have HSB:=zh hsb
    clear hsb
    go_wp2_with fail
    refine HIS.out.mono ?_
    rintro e w5 ⟨rfl,hb5⟩
    have HB5:=zh (HB.out.trans (hb5.mono hs8))
    have HBW5:=zh (HB1.out.bel.trans (HB5.out.mono HB1.out.bel.size))
    have HO5:=zh (z07 HO.out hb5)
    have HRW5:=zh ((HRW.out.below hb5 (zq _)).mono hb5.size)
    have hs9:w1.heap.size≤w5.heap.size:=HB5.out.size
    clear hb5 HIS HO HB d0
    cases sb with
    | false =>
     have HVV:=zh (HV.out rfl)
     go_wp2_with fail
     go_ret
     exact⟨by rw [HVV.out];rfl,HBW5.out⟩
    | true =>
     clear HV
     have HGD2:Hid (∀ l∈L.take (k+1),l≠[]∧sortB l=true):=zh (fun l hl=>by
      rw [HTK.out]at hl
      rcases List.mem_append.1 hl with h | h
      ·exact HGD.out l h
      ·rw [List.mem_singleton.1 h];exact⟨HNE.out,HSB.out⟩)
     have HFL:Hid ((L.take (k+1)).flatten.length=(L.take k).flatten.length+row.length):=zh (by rw [HFT.out,List.length_append])
     generalize hK:(L.take k).flatten=K at *
     clear hK
     go_wp2_with (at_builtin;refine z2d rfl _ _ rfl w1.heap.size (.slice oa K.length oc) K.length K (by rfl) HO5.out (.slice ra row.length rc) row (by rfl) HRW5.out (by omega) hs9 ?_;intro v' wB hown' hgrow;have HOW:=zh hown';have HGR:=zh hgrow;clear hown' hgrow;obtain⟨da,dc,rfl⟩:∃ a c,v'=.slice a (K.length+row.length) c:=z05 HOW.out)
     all_goals
      have HBE:=zh (HB5.out.grown HGR.out hs9 (fun b hb=>(z0g HO5.out b hb).1))
      have HOE:Hid (wB.ownsRow w1.heap.size 9 1 (.slice da (K.length+row.length) dc) (L.take (k+1)).flatten.length (strsC (L.take (k+1)).flatten)):=zh (by rw [HFL.out,HFT.out];exact HOW.out)
      refine⟨zh ⟨k+1,hlt,by go_num,HOE.out,HGD2.out,HBE.out⟩,?_⟩
      simp [intOf];omega
  case neg =>
   have hTK:L.take k=L:=List.take_of_length_le (Nat.not_lt.1 hlt)
   rw [hTK]at HO HGD
   rw [hTK]
   clear hTK
   generalize hF:L.flatten=F at *
   clear hF
   obtain⟨fn,hfn⟩:∃ fn,F.length=fn:=⟨_,rfl⟩
   have hSO:=zch w1.heap.size _ F wr HO.out HF9.out
   have HSO:=zh hSO
   clear hSO hfn
   go_wp2_with fail
   refine HSO.out.mono ?_
   rintro e w5 ⟨rfl,l',hl',hll,hg5,ho5⟩
   have HB5:=zh (HB.out.grown hg5 HB.out.size (fun b hb=>(z0g HO.out b hb).1))
   have HBW5:=zh (HB1.out.bel.trans (HB5.out.mono HB1.out.bel.size))
   have HU5:=zh (HUV.out.below HB5.out)
   have HSL:Hid (l'=sortL F):=zh hl'
   obtain⟨m1,m2,fv5,tv5,pv,Bq,hbx,_,_,hrow,_,_⟩:=HU5.out
   obtain⟨pa,pc,rfl⟩:=z05 hrow
   have u4:w5.cell? ⟨b,4,none⟩=some (.slice pa (movesP f t).length pc):=zw _ _ 4 _ _ _ hbx
   have hl9:l'.length≤1000000000:=by rw [hll];exact HF9.out
   have HEQ:=zh (zfs _ _ l' (movesP f t) w5 hl9 HMS.out (z29 ho5).2 (z29 hrow).2)
   clear HSO HO hl' hll hg5 ho5 hbx hrow hl9 HB HBW
   by_cases heq:l'=movesP f t
   case neg =>
    have HV:=zh (HV2.out trivial (fun g=>heq (HSL.out.trans g.2)))
    rw [decide_eq_false heq]at HEQ
    clear heq
    go_wp2_with fail
    refine HEQ.out.mono ?_
    rintro e w6 ⟨rfl,hb6⟩
    have HB6:=zj HBW5 hb6
    clear hb6
    go_wp2_with fail
    go_ret
    exact⟨by rw [HV.out];rfl,HB6.out⟩
   rw [decide_eq_true heq]at HEQ
   have HPL:=zh (HPF.out trivial ⟨HGD.out,HSL.out.symm.trans heq⟩)
   clear heq HSL HPF HGD HV2
   go_wp2_with fail
   refine HEQ.out.mono ?_
   rintro e w6 ⟨rfl,hb6⟩
   have HB6:=zj HB5 hb6
   clear hb6 HEQ u4 HB5 HBW5 HU5
   have hln:=z4p ma L.length mc w6
   go_wp2_with fail
   try rw [hln]
   clear hln
   go_wp2_with fail
   go_loopw [14,56] (fun ov p wr=>Hid (∃ (k:Nat),k≤L.length∧p=.int .i64 (k:Int)∧wr.ownsRow w1.heap.size 9 1 ov (L.take k).flatten.length (strsC (L.take k).flatten)∧(∀ j,j<k→consV X (betV f t (L.take (j+1)).flatten)=0)∧Below w1.heap.size w1 wr)) (fun _ p _=>L.length - (intOf p).toNat)
   case atStart=>exact zh ⟨0,Nat.zero_le _,rfl,World.ownsRow_nil _ _ _ _,fun j hj=>absurd hj (Nat.not_lt_zero j),HB6.out⟩
   case round =>
    obtain⟨k,hk,rfl,ho,hgd,hb⟩:=hrel.out
    have HO:=zh ho
    have HB:=zh hb
    have HGD:=zh hgd
    obtain⟨oa,oc,rfl⟩:=z05 ho
    clear hrel ho hb hgd
    have hs8:=HB.out.size
    have HBW:=zh (HB1.out.bel.trans (HB.out.mono HB1.out.bel.size))
    by_cases hlt:k<L.length
    case pos =>
     have hk0:(0:Int)≤(k:Int):=Int.natCast_nonneg k
     have hkz:(k:Int)<(L.length:Int):=Int.ofNat_lt.2 hlt
     obtain⟨b2,off,r,rfl,d0,hr⟩:=za2 HNM.out HBW.out hlt
     have HFT:=zh (z6y hlt)
     have hfl:=HFX.out (k+1)
     rw [HFT.out,List.length_append]at hfl
     have HCX:=zh (HCS.out (k+1))
     have HBX:=zh (HBT.out (k+1) trivial b)
     have HP17:Hid (consV X (betV f t (L.take (k+1)).flatten)≠0→planV X f t L=17):=zh (fun h=>HPL.out.1 k hlt h)
     generalize L[k]=row at *
     have HRW:=zh hr
     obtain⟨ra,rc,rfl,_⟩:=z01 hr
     clear hr
     have HFL:Hid ((L.take (k+1)).flatten.length=(L.take k).flatten.length+row.length):=zh (by rw [HFT.out,List.length_append])
     generalize hK:(L.take k).flatten=K at *
     clear hK
     obtain⟨C,hC⟩:∃ C,consV X (betV f t (L.take (k+1)).flatten)=C:=⟨_,rfl⟩
     rw [hC]at HCX HP17
     have HC:=zh hC
     clear hC
     go_upto_region 20 with (at_builtin;refine z2d rfl _ _ rfl w1.heap.size (.slice oa K.length oc) K.length K (by rfl) HO.out (.slice ra row.length rc) row (by rfl) HRW.out (by omega) hs8 ?_;intro v' wB hown' hgrow;have HOW:=zh hown';have HGR:=zh hgrow;clear hown' hgrow;obtain⟨da,dc,rfl⟩:∃ a c,v'=.slice a (K.length+row.length) c:=z05 HOW.out)
     have HBE:=zh (HB.out.grown HGR.out hs8 (fun b hb=>(z0g HO.out b hb).1))
     have HOE:Hid (wB.ownsRow w1.heap.size 9 1 (.slice da (K.length+row.length) dc) (L.take (k+1)).flatten.length (strsC (L.take (k+1)).flatten)):=zh (by rw [HFL.out,HFT.out];exact HOW.out)
     have HBQ:Hid (Below wB.heap.size wB wB.drew):=zh (Below.refl _ _).drew
     have HBD:=zh (HBE.out.trans (HBQ.out.mono HBE.out.size))
     have HRB:Hid (RowOf Value.string wB.drew.heap.size (.slice da (K.length+row.length) dc) (L.take (k+1)).flatten wB.drew):=zh (((z29 HOE.out).2.below HBQ.out (zq _)).mono HBQ.out.size)
     have HBC:=zh (HBX.out wB.drew (HB1.out.bel.trans (HBD.out.mono HB1.out.bel.size)) (HUV.out.below HBD.out) _ HRB.out)
     have HSB:Hid (∀ W,Below w1.heap.size w1 W→HeldX w.heap.size (.slice va vn vc) iv W):=zh (fun W hw=>⟨(HB1.out.below hw).c0,(HB1.out.below hw).c1⟩)
     clear HOW HGR HO HRW HB HBX HBW HRB d0
     by_cases hc0:C=0
     case pos =>
      have hc1:(C != 0)=false:=by rw [hc0];rfl
      subst hc0
      refine wp_region_noPanic ?_
      refine wp_region_held_drew (S:=HeldX w.heap.size (.slice va vn vc) iv) (by kernel_rfl) (HSB.out _ HBD.out) (fun hS0=>?_)
      refine zt 0 _ rfl ?_;simp only [zl1];refine zt 1 _ rfl ?_;simp only [zl1];refine zt 2 _ rfl ?_;simp only [zl1]
      refine zr 3 rfl fun K hK=>?_
      go_simp
      refine(HBC.out).mono ?_
      rintro e w7 ⟨v7,rfl,hs7,hb7,hl7⟩
      have HB7:=zj HBD hb7
      have HBb7:=zj HBQ hb7
      have HCN:=zh (HCX.out hl7 w7 (HB1.out.bel.trans (HB7.out.mono HB1.out.bel.size)) _ hs7)
      obtain⟨qa,qn,qc,rfl⟩:∃ a n c,v7=.slice a n c:=by obtain⟨a,c,e,_⟩:=hs7;exact⟨a,_,c,e⟩
      clear hS0
      have hS0:=HSB.out _ HB7.out
      refine hK.out _ _ hS0 (fun _=>?_)
      clear hK K hb7 hs7 hl7
      (try simp only [zl1])
      refine zr 4 rfl fun K hK=>?_
      go_simp
      refine(HCN.out).mono ?_
      rintro e w8 ⟨rfl,hb8⟩
      have HB8:=zj HB7 hb8
      have HBb8:=zj HBb7 hb8
      clear hS0
      have hS0:=HSB.out _ HB8.out
      refine hK.out _ _ hS0 (fun _=>?_)
      clear hK K hb8
      (try simp only [zl1])
      refine zt 5 _ rfl ?_;simp only [zl1]
      refine wpAnyH_done (by kernel_rfl) ?_ _
      refine NoPanic.normal ?_
      have HO8:=zh (z07 HOE.out HBb8.out)
      go_wp2_with fail
      all_goals
       refine⟨zh ⟨k+1,hlt,by go_num,by first | exact HO8.out | (rw [HFL.out];exact HO8.out),fun j hj=>?_,HB8.out⟩,?_⟩
       ·by_cases hjk:j<k
        ·exact HGD.out j hjk
        ·obtain rfl:j=k:=Nat.le_antisymm (Nat.lt_succ_iff.1 hj) (Nat.not_lt.1 hjk)
         exact HC.out
       ·simp [intOf];omega
     case neg =>
      have hc1:(C != 0)=true:=by simpa using hc0
      have HV:=zh (HP17.out hc0)
      refine wp_region_noPanic ?_
      refine wp_region_held_drew (S:=HeldX w.heap.size (.slice va vn vc) iv) (by kernel_rfl) (HSB.out _ HBD.out) (fun hS0=>?_)
      refine zt 0 _ rfl ?_;simp only [zl1];refine zt 1 _ rfl ?_;simp only [zl1];refine zt 2 _ rfl ?_;simp only [zl1]
      refine zr 3 rfl fun K hK=>?_
      go_simp
      refine(HBC.out).mono ?_
      rintro e w7 ⟨v7,rfl,hs7,hb7,hl7⟩
      have HB7:=zj HBD hb7
      have HBb7:=zj HBQ hb7
      have HCN:=zh (HCX.out hl7 w7 (HB1.out.bel.trans (HB7.out.mono HB1.out.bel.size)) _ hs7)
      obtain⟨qa,qn,qc,rfl⟩:∃ a n c,v7=.slice a n c:=by obtain⟨a,c,e,_⟩:=hs7;exact⟨a,_,c,e⟩
      clear hS0
      have hS0:=HSB.out _ HB7.out
      refine hK.out _ _ hS0 (fun _=>?_)
      clear hK K hb7 hs7 hl7
      (try simp only [zl1])
      refine zr 4 rfl fun K hK=>?_
      go_simp
      refine(HCN.out).mono ?_
      rintro e w8 ⟨rfl,hb8⟩
      have HB8:=zj HB7 hb8
      have HBb8:=zj HBb7 hb8
      clear hS0
      have hS0:=HSB.out _ HB8.out
      refine hK.out _ _ hS0 (fun _=>?_)
      clear hK K hb8
      (try simp only [zl1])
      refine zt 5 _ rfl ?_;simp only [zl1]
      refine wpAnyH_done (by kernel_rfl) ?_ _
      refine NoPanic.normal ?_
      have HBF:=zh (HB1.out.bel.trans (HB8.out.mono HB1.out.bel.size))
      go_wp2_with fail
      go_ret
      exact⟨by rw [HV.out];rfl,HBF.out⟩
    case neg =>
     have hkL:k=L.length:=Nat.le_antisymm hk (Nat.not_lt.1 hlt)
     have HV:=zh (HPL.out.2 (fun j hj=>HGD.out j (by rw [hkL];exact hj)))
     clear hkL HGD HPL
     go_wp2_with fail
     go_ret
     exact⟨by rw [HV.out];rfl,HBW.out⟩
end Go.Proofs.YtapbhoodgnmnkaaGreatDoor
