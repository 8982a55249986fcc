/- Laws and contracts. -/
import Derived.Test.YtapbhoodgnmnkaaGreatDoorJH
import Derived.Deep.RegionLawGrows
import Derived.Laws.AppendOwnNone
set_option linter.unusedVariables false
set_option linter.unusedSimpArgs false
set_option maxRecDepth 100000
set_option maxHeartbeats 32000000
namespace Go.Proofs.YtapbhoodgnmnkaaGreatDoor
open Go.Proofs.Tryz Go Go.RowKit Go.Maps Go.Sort Go.Shelf Go.Lib
def PlcF (s:List SelL)(f:Lit→Option Value):Prop:=∀ p:ByteArray,f (.string p.data.toList)=(atS s p).map fun y=>.int .i64 (plc y.2)
theorem zjo {s:List SelL}(hi:incrS s){k:Nat}(hk:k<s.length)(p:ByteArray):atS (s.take (k+1)) p=if p=s[k].1 then some s[k] else atS (s.take k) p:=by
 have hno:∀ y∈s.take k,y.1≠s[k].1:=fun y hy e=>by
  obtain⟨j,hj⟩:=List.mem_iff_getElem?.1 hy
  rw [List.getElem?_take]at hj
  split at hj
  ·obtain⟨hjl,rfl⟩:=List.getElem?_eq_some_iff.1 hj
   have:=List.pairwise_iff_getElem.1 hi j k hjl hk (by assumption)
   rw [e,z0c]at this;cases this
  ·cases hj
 unfold atS
 rw [zs hk,List.find?_append]
 by_cases hp:p=s[k].1
 ·subst hp
  rw [if_pos rfl,List.find?_eq_none.2 (fun y hy e=>hno y hy (of_decide_eq_true e))]
  simp
 ·rw [if_neg hp]
  have h1:List.find? (fun y:SelL=>decide (y.1=p)) [s[k]]=none:=by
   rw [List.find?_eq_none]
   intro y hy e
   rw [List.mem_singleton.1 hy]at e
   exact hp (of_decide_eq_true e).symm
  rw [h1]
  cases List.find? (fun y:SelL=>decide (y.1=p)) (s.take k)<;>rfl
theorem PlcF.start:PlcF [] (fun _=>none):=fun _=>rfl
theorem PlcF.put {s:List SelL}(hi:incrS s){k:Nat}(hk:k<s.length){f:Lit→Option Value}(h:PlcF (s.take k) f):PlcF (s.take (k+1)) (putF f (.string s[k].1.data.toList) (.int .i64 (plc s[k].2))):=fun p=>by
 rw [zjo hi hk]
 unfold putF
 by_cases hp:p=s[k].1
 ·subst hp
  rw [if_pos rfl,if_pos rfl]
  rfl
 ·rw [if_neg hp,if_neg (fun e=>hp (by injection e with e;exact ByteArray.ext (Array.toList_inj.1 e)))]
  exact h p
theorem PlcF.look {s:List SelL}{f:Lit→Option Value}(h:PlcF s f)(p:ByteArray):(f (.string p.data.toList)).getD (.int .i64 0)=.int .i64 (match atS s p with | some y=>plc y.2 | none=>0)∧(f (.string p.data.toList)).isSome=(atS s p).isSome:=by
 rw [h p]
 cases atS s p<;>exact⟨rfl,rfl⟩
theorem z8r (sv:Value)(s:List SelL)(w:World)(hl:s.length≤1000000)(hi:incrS s)(hv:∀ y∈s,validB y.2.1 y.2.2.1 y.2.2.2=true)(hp:∀ y∈s,y.1.size≤maxLen)(hS:SelsOf w.heap.size sv s w) :
  Calls prog 81 #[sv] w fun e w'=>e=.returned (.tuple #[.map (some w.heap.size),.bool true])∧(∃ f,MapF prog 9 w' w.heap.size s.length f∧PlcF s f)∧Below w.heap.size w w':=by
 have HS:=zh hS
 have HIN:=zh hi
 have HV:=zh hv
 have HP:=zh hp
 obtain⟨sa,sc,rfl⟩:=zo hS
 clear hi hv hp hS
 have hmm:=@run_makeMap prog
 have HM0:Hid (MapF prog 9 (w.alloc (.map #[] 0)) w.heap.size 0 (fun _=>none)):=zh (MapF.made prog 9 w)
 have HB0:=zh (belQ w (.map #[] 0))
 go_enter func81,ntmps81
 go_upto_region 2 with fail
 generalize w.alloc (.map #[] 0)=W0 at *
 clear hmm
 go_wp2_with fail
 go_loopw [12] (fun p wr=>Hid (∃ k:Nat,k≤s.length∧p=.int .i64 (k:Int)∧(∃ f,MapF prog 9 wr w.heap.size k f∧PlcF (s.take k) f)∧Below w.heap.size w wr)) (fun p _=>s.length - (intOf p).toNat)
 case atStart=>exact zh ⟨0,Nat.zero_le _,rfl,⟨_,HM0.out,PlcF.start⟩,HB0.out⟩
 case round =>
  obtain⟨k,hk,rfl,⟨f,hmf,hpf⟩,hb⟩:=hrel.out
  have HMF:=zh hmf
  have HPF:=zh hpf
  have HB:=zh hb
  clear hrel hmf hpf hb HM0 HB0
  by_cases hlt:k<s.length
  case neg =>
   have hkk:k=s.length:=Nat.le_antisymm hk (Nat.le_of_not_lt hlt)
   clear hk
   subst hkk
   have HE:Hid (∃ f,MapF prog 9 wr w.heap.size s.length f∧PlcF s f):=zh ⟨f,HMF.out,by have:=HPF.out;rwa [List.take_length]at this⟩
   go_wp2_with fail
   go_ret2
   exact⟨rfl,HE.out,HB.out⟩
  case pos =>
   have hk0:(0:Int)≤(k:Int):=Int.natCast_nonneg k
   have hkz:(k:Int)<(s.length:Int):=Int.ofNat_lt.2 hlt
   obtain⟨b,off,rfl,hbl,d0,d1,d2,d3⟩:=HS.out.at hlt
   have hyk:s.getD k default=s[k]:=by rw [zg,ze hlt];rfl
   rw [hyk]at d0 d1 d2 d3
   have d0:=(HB.out.cell (p:=⟨b,off+k*4,none⟩) hbl).trans d0
   have d1:=(HB.out.cell (p:=⟨b,off+k*4+1,none⟩) hbl).trans d1
   have d2:=(HB.out.cell (p:=⟨b,off+k*4+2,none⟩) hbl).trans d2
   have d3:=(HB.out.cell (p:=⟨b,off+k*4+3,none⟩) hbl).trans d3
   have HPUT:=zh (HPF.out.put HIN.out hlt)
   have hps:=HP.out _ (List.getElem_mem hlt)
   have HVB:Hid (placeV s[k].2.1 s[k].2.2.1 s[k].2.2.2=(plc s[k].2,0)):=zh (by unfold placeV;rw [if_pos (HV.out _ (List.getElem_mem hlt))];rfl)
   have hbw:b<wr.heap.size:=Nat.lt_of_lt_of_le hbl HB.out.size
      -- the element ahead
   have HPRE:Hid (0<k→∃ pa:ByteArray,(∀ W,Below wr.heap.size wr W→W.cell? ⟨b,off+(k - 1)*4,none⟩=some (.string pa))∧ltB pa s[k].1=true):=zh (fun hk1=>by
    have hkm:k - 1<s.length:=by omega
    obtain⟨b',off',e2,hbl2,f0,_⟩:=HS.out.at hkm
    cases e2
    have hym:s.getD (k - 1) default=s[k - 1]:=by rw [zg,ze hkm];rfl
    rw [hym]at f0
    refine⟨s[k - 1].1,fun W hW=>?_,List.pairwise_iff_getElem.1 HIN.out (k - 1) k hkm hlt (by omega)⟩
    exact(hW.cell (p:=⟨b,off+(k - 1)*4,none⟩) hbw).trans ((HB.out.cell (p:=⟨b,off+(k - 1)*4,none⟩) hbl).trans f0))
   clear hyk HPF
   generalize s[k]=y at *
   have HPL:=zh (fun W=>z6i y.2.1 y.2.2.1 y.2.2.2 W)
   rw [HVB.out]at HPL
   generalize plc y.2=pl at *
   have hbq:=belQ wr (.cells #[.string y.1,intC y.2.1,intC y.2.2.1,intC y.2.2.2] 53)
   have HN1:=zh (zn wr (.cells #[.string y.1,intC y.2.1,intC y.2.2.1,intC y.2.2.2] 53))
   have HB1:=zh hbq
   have HM1:=zh (HMF.out.below hbq)
   clear hbq
   go_upto_region 5 with fail
   generalize wr.alloc (.cells #[.string y.1,intC y.2.1,intC y.2.2.1,intC y.2.2.2] 53)=W1 at *
   obtain⟨gy,hgy⟩:∃ gy,wr.heap.size=gy:=⟨_,rfl⟩
   have HGY:=zh hgy
   rw [hgy]at HN1
   simp only [hgy]
   clear hgy d0 d1 d2 d3
   have hgyl:gy<W1.heap.size:=(zb HN1.out)
   have y1:W1.cell? ⟨gy,1,none⟩=some (intC y.2.1):=zw _ _ 1 _ _ _ HN1.out
   have y2:W1.cell? ⟨gy,2,none⟩=some (intC y.2.2.1):=zw _ _ 2 _ _ _ HN1.out
   have y3:W1.cell? ⟨gy,3,none⟩=some (intC y.2.2.2):=zw _ _ 3 _ _ _ HN1.out
   go_wp2_with fail
   refine(HPL.out W1).mono ?_
   rintro e w2 ⟨rfl,hb2⟩
   have HB2:Hid (Below wr.heap.size wr w2):=zh (HB1.out.trans (hb2.mono HB1.out.size))
   have HM2:=zh (HM1.out.below hb2)
   have HN2:=zh ((hb2.block gy hgyl).trans HN1.out)
   clear hb2 HPL y1 y2 y3 HN1 HM1 HB1
   have y0:w2.cell? ⟨gy,0,none⟩=some (.string y.1):=zw _ _ 0 _ _ _ HN2.out
   have HEND:Hid (∀ n W',MapF prog 9 W' w.heap.size (k+1) (putF f (.string y.1.data.toList) (.int .i64 pl))→(w2.drewN n).grownBy W' (some w.heap.size)→(∃ f,MapF prog 9 W' w.heap.size (k+1) f∧PlcF (s.take (k+1)) f)∧Below w.heap.size w W'):=zh (fun n W' h11 g11=>by
    have h2:Below w.heap.size w (w2.drewN n):=below_drewN (HB.out.trans (HB2.out.mono HB.out.size)) n
    exact⟨⟨_,h11,HPUT.out⟩,h2.grown g11 h2.size (fun b hb=>by cases hb;exact zq _)⟩)
   by_cases hk1:0<k
   case neg =>
    have hkz2:¬ (0:Int)<(k:Int):=by omega
    have hkd:decide ((0:Int)<(k:Int))=false:=decide_eq_false hkz2
    have hkd2:decide (0<k)=false:=decide_eq_false hk1
    clear HPRE hk1
    go_wp2_with fail
    go_quiet (fail)
    go_wp2_with (refine z17 rfl _ _ _ _ rfl 9 3 lawStr underlying131 w.heap.size k f (by rfl) (HM2.out.below (below_drewN (Below.refl _ _) _)) (by unfold maxLen;omega) _ _ (.string y.1.data.toList) rfl rfl (keyStr hps) ?_;intro W' h11 g11;have HJ:=zh (HEND.out _ W' h11 g11);clear h11 g11)
    all_goals
     refine⟨zh ⟨k+1,hlt,by go_num,HJ.out.1,HJ.out.2⟩,?_⟩
     simp [intOf];omega
   case pos =>
    obtain⟨pa,hpa,hlb⟩:=HPRE.out hk1
    have p0:=hpa w2 HB2.out
    have hc2:Op.bytesLess pa.toList y.1.toList=true:=hlb
    have hkz2:(0:Int)<(k:Int):=by omega
    have hkd:decide ((0:Int)<(k:Int))=true:=decide_eq_true hkz2
    have hkd2:decide (0<k)=true:=decide_eq_true hk1
    have hsub:wrap64 ((k:Int) - 1)=((k - 1:Nat):Int):=zcp hk1 hlt hl
    have hsub2:IntKind.i64.wrap ((k:Int) - 1)=((k - 1:Nat):Int):=by rw [IntWalk.i64_in _ (by omega)];omega
    have hi0:(0:Int)≤((k - 1:Nat):Int):=Int.natCast_nonneg _
    have hi1:((k - 1:Nat):Int)<(s.length:Int):=Int.ofNat_lt.2 (by omega)
    clear HPRE hpa hlb
    go_wp2_with fail
    go_quiet (fail)
    clear hsub hsub2
    go_wp2_with (refine z17 rfl _ _ _ _ rfl 9 3 lawStr underlying131 w.heap.size k f (by rfl) (HM2.out.below (below_drewN (Below.refl _ _) _)) (by unfold maxLen;omega) _ _ (.string y.1.data.toList) rfl rfl (keyStr hps) ?_;intro W' h11 g11;have HJ:=zh (HEND.out _ W' h11 g11);clear h11 g11)
    all_goals
     refine⟨zh ⟨k+1,hlt,by go_num,HJ.out.1,HJ.out.2⟩,?_⟩
     simp [intOf];omega
theorem z8o (s:List SelL)(p:ByteArray)(m:Nat)(f:Lit→Option Value)(W:World)(hm:MapF prog 9 W m s.length f)(hf:PlcF s f)(hp:p.size≤maxLen) :
  Calls prog 83 #[.map (some m),.string p] W fun e w'=>e=.returned (.int .i64 (plcS s p))∧w'=W:=by
 have HMF:=zh hm
 have HKY:=zh (keyStr (p:=p) hp)
 have HZ:=zh (show ∀ W,(zeroValue 3).run prog W=.ok (.int .i64 0) W from zeroValue3)
 obtain⟨h1,h2⟩:=hf.look p
 have HL1:=zh h1
 have HL2:=zh h2
 have hpc:plcS s p=match atS s p with | some y=>plc y.2 | none=>-1:=rfl
 rw [hpc]
 clear hm hf hp h1 h2 hpc
 cases ha:atS s p with
 | none =>
  rw [ha]at HL1 HL2
  simp only [Option.isSome_none]at HL1 HL2
  go_enter func83,ntmps83
  go_wp2_with (at_lookup;refine z0w rfl _ _ 131 rfl 9 3 lawStr underlying131 (HZ.out _) m s.length f (by rfl) HMF.out _ (.string p.data.toList) rfl HKY.out ?_;rw [HL1.out,HL2.out])
  go_ret
  exact⟨rfl,rfl⟩
 | some y =>
  rw [ha]at HL1 HL2
  simp only [Option.isSome_some]at HL1 HL2
  go_enter func83,ntmps83
  go_wp2_with (at_lookup;refine z0w rfl _ _ 131 rfl 9 3 lawStr underlying131 (HZ.out _) m s.length f (by rfl) HMF.out _ (.string p.data.toList) rfl HKY.out ?_;rw [HL1.out,HL2.out])
  go_ret
  exact⟨rfl,rfl⟩
def strsC (l:List ByteArray):List Value:=l.map Value.string
theorem zck (l:List ByteArray):strsC l=(l.map fun p=>p.data.toList).map encStr:=by
 unfold strsC
 rw [List.map_map]
 exact List.map_congr_left fun p _=>rfl
theorem zcj (l:List (List UInt8)):l.map encStr=strsC (l.map fun x=>⟨x.toArray⟩):=by
 unfold strsC
 rw [List.map_map]
 rfl
theorem zch (B:Nat)(v:Value)(l:List ByteArray)(w:World)(h:w.ownsRow B 9 1 v l.length (strsC l))(hl:l.length≤1000000000) :
  Calls prog 49 #[v] w fun e w'=>e=.returned (.tuple #[])∧∃ l':List ByteArray,l'=(((l.map fun p=>p.data.toList).mergeSort fun x y=>decide (x≤y)).map fun x=>⟨x.toArray⟩)∧l'.length=l.length∧w.grownBy w' v.ownBlock∧w'.ownsRow B 9 1 v l'.length (strsC l'):=by
 rw [zck]at h
 have hlen:((l.map fun p=>p.data.toList).mergeSort fun x y=>decide (x≤y)).length=l.length:=by rw [List.length_mergeSort,List.length_map]
 rcases h.2 with ⟨rfl,h0⟩ | ⟨g,cap,cur,rfl,hb,hg,hc,hcm,hcs,ht⟩
 ·obtain rfl:l=[]:=List.length_eq_zero_iff.1 h0
  refine(Tryz.slices_Sort_string_none none 0 w).mono ?_
  rintro e w' ⟨rfl,rfl⟩
  exact⟨rfl,_,rfl,by simp,World.grownBy.refl _ _,by simpa [strsC]using World.ownsRow_nil _ _ _ _⟩
 ·have e0:(l.map fun p=>p.data.toList).length=l.length:=List.length_map _
  have hq:=Tryz.slices_Sort_string g 0 cap (l.map fun p=>p.data.toList) w (holds_of_block hg (by rw [e0];simpa using ht)) (zb hg) (by omega)
  rw [e0]at hq
  refine hq.mono ?_
  rintro e w' ⟨rfl,n,os,rfl⟩
  refine⟨rfl,_,rfl,by rw [List.length_map,hlen],grownBy_sorted _,?_⟩
  have ho:=ownsRow_sorted (n:=n) (os:=os) (base:=B) (ss:=l.map fun p=>p.data.toList) (ts:=(l.map fun p=>p.data.toList).mergeSort fun x y=>decide (x≤y)) (by rw [hlen,e0]) hb hg (by rw [e0];exact hc) hcm hcs
  rw [← zcj,List.length_map,hlen]
  rw [e0]at ho
  exact ho
theorem zaz (B:Nat)(v:Value)(l:List ByteArray)(w:World)(h:w.ownsRow B 9 1 v l.length (strsC l))(hl:l.length≤1000000000) :
  Calls prog 84 #[v] w fun e w'=>∃ (v':Value) (l':List ByteArray),e=.returned v'∧l'=((Lib.compact (l.map fun p=>p.data.toList)).map fun x=>⟨x.toArray⟩)∧l'.length≤l.length∧(∃ a c,v'=.slice a l'.length c)∧w.grownBy w' v.ownBlock∧w'.ownsRow B 9 1 v' l'.length (strsC l'):=by
 rw [zck]at h
 rcases h.2 with ⟨rfl,h0⟩ | ⟨g,cap,cur,rfl,hb,hg,hc,hcm,hcs,ht⟩
 ·obtain rfl:l=[]:=List.length_eq_zero_iff.1 h0
  refine(Tryz.slices_Compact_string_empty none 0 w).mono ?_
  rintro e w' ⟨rfl,rfl⟩
  exact⟨_,[],rfl,rfl,zq _,⟨_,_,rfl⟩,World.grownBy.refl _ _,World.ownsRow_nil _ _ _ _⟩
 ·have e0:(l.map fun p=>p.data.toList).length=l.length:=List.length_map _
  generalize hzs:(l.map fun p=>p.data.toList)=zs at *
  have hlc:(Lib.compact zs).length≤zs.length:=Lib.compact_length_le zs
  have hq:=Tryz.slices_Compact_string g 0 cap zs w (holds_of_block hg (by rw [e0];simpa using ht)) (by omega) (by rw [e0];exact hc)
  rw [e0]at hq
  refine hq.mono ?_
  rintro e w' ⟨rfl,q,rfl⟩
  have e1:∀ d:Array (List UInt8),putRow encStr (Sort.ahead w q) g 0 d=grow (putRow encStr (Sort.ahead w q) g 0 d) #[]:=fun d=>(grow_empty _).symm
  rw [e1]
  have hpl:(Lib.compact zs++List.replicate (l.length - (Lib.compact zs).length) []).length=zs.length:=by simp;omega
  have hown:=ownsRow_sorted (n:=q) (os:=#[]) (base:=B) (ss:=zs) hpl hb hg (by rw [e0];exact hc) hcm hcs
  refine⟨_,_,rfl,rfl,by rw [List.length_map];omega,⟨_,_,by rw [List.length_map]⟩,grownBy_sorted _,?_⟩
  rw [← zcj,List.length_map]
  rcases hown.2 with ⟨h1,_⟩ | ⟨g2,cap2,cur2,h1,h2,h3,h4,h5,h6,h7⟩
  ·cases h1
  ·cases h1
   refine⟨by simp,.inr ⟨g,cap,cur2,rfl,h2,h3,by omega,h5,h6,?_⟩⟩
   have h8:=congrArg (List.take (Lib.compact zs).length) h7
   rw [List.take_take,Nat.mul_one,Nat.min_eq_left hlc,List.map_append,List.take_append_of_le_length (by simp),List.take_of_length_le (l:=List.map _ _) (by simp)]at h8
   rw [Nat.mul_one]
   exact h8
section
open Go.Proofs.Tryz Go Go.Lib
theorem zm1 {x y z:List UInt8}(h1:Op.bytesLess y x=false)(h2:Op.bytesLess z y=false):Op.bytesLess z x=false:=by
 cases h:Op.bytesLess z x with
 | false=>rfl
 | true =>
  cases g:Op.bytesLess x y with
  | true=>rw [z3x z x y h g]at h2;cases h2
  | false=>rw [z2g x y g h1]at h;rw [h]at h2;cases h2
theorem z4e (d:Array (List UInt8))(hs:∀ i j,i≤j→j<d.size→Op.bytesLess d[j]! d[i]! = false):∀ m,m≤d.size →
  (compactUpTo d m).Pairwise (fun a b=>Op.bytesLess a b=true)∧(∀ x∈compactUpTo d m,∃ j,j<m∧d[j]! = x)∧(∀ j,j<m→d[j]!∈compactUpTo d m)
 | 0,_=>by simp [compactUpTo]
 | m+1,hm=>by
  obtain⟨h1,h2,h3⟩:=z4e d hs m (by omega)
  rw [compactUpTo_succ]
  by_cases hk:keeps d m=true
  ·rw [if_pos hk]
   refine⟨?_,?_,?_⟩
   ·rw [List.pairwise_append]
    refine⟨h1,by simp,fun x hx y hy=>?_⟩
    obtain⟨j,hj,rfl⟩:=h2 x hx
    rw [List.mem_singleton]at hy
    subst hy
    unfold keeps at hk
    simp only [decide_eq_true_eq]at hk
    have h0:d[m]!≠d[m - 1]!:=by
     rcases hk with hk | hk
     ·omega
     ·exact hk
    have ha:=hs j (m - 1) (by omega) (by omega)
    have hb:=hs (m - 1) m (by omega) (by omega)
    have hlt:Op.bytesLess d[m - 1]! d[m]! = true:=by
     cases h:Op.bytesLess d[m - 1]! d[m]! with
     | true=>rfl
     | false=>exact absurd (z2g _ _ hb h) h0
    cases g:Op.bytesLess d[j]! d[m - 1]! with
    | true=>exact z3x _ _ _ g hlt
    | false=>rw [z2g _ _ g ha];exact hlt
   ·intro x hx
    rcases List.mem_append.1 hx with hx | hx
    ·obtain⟨j,hj,e⟩:=h2 x hx;exact⟨j,by omega,e⟩
    ·rw [List.mem_singleton]at hx;exact⟨m,by omega,hx.symm⟩
   ·intro j hj
    by_cases e:j=m
    ·subst e;simp
    ·exact List.mem_append_left _ (h3 j (by omega))
  ·rw [if_neg hk,List.append_nil]
   refine⟨h1,fun x hx=>?_,fun j hj=>?_⟩
   ·obtain⟨j,hj,e⟩:=h2 x hx;exact⟨j,by omega,e⟩
   ·by_cases e:j=m
    ·subst e
     unfold keeps at hk
     simp only [decide_eq_true_eq,not_or,ne_eq,Decidable.not_not]at hk
     rw [hk.2]
     exact h3 (j - 1) (by omega)
    ·exact h3 j (by omega)
theorem z9j (x:List UInt8):∀ y,Op.bytesLess x y=decide (x<y):=by
 induction x with
 | nil=>intro y;cases y<;>simp [Op.bytesLess]
 | cons a x ih =>
  intro y
  cases y with
  | nil=>simp [Op.bytesLess]
  | cons b y =>
   rw [Op.bytesLess,ih y]
   rw [Bool.eq_iff_iff]
   simp only [Bool.or_eq_true,Bool.and_eq_true,decide_eq_true_eq,beq_iff_eq,List.cons_lt_cons_iff]
theorem zdc (x y:List UInt8):decide (x≤y)=!Op.bytesLess y x:=by
 rw [z9j]
 by_cases h:y<x
 ·rw [decide_eq_true h,decide_eq_false (fun g=>absurd h (List.not_lt.2 g))];rfl
 ·rw [decide_eq_false h,decide_eq_true (List.not_lt.1 h)];rfl
theorem zcg {l t:List ByteArray}(ht:IncB t)(hm:∀ p,p∈t ↔ p∈l):((compact ((((l.map fun p=>p.data.toList).mergeSort fun x y=>decide (x≤y)).map fun x=>(⟨x.toArray⟩:ByteArray)).map fun p=>p.data.toList)).map fun x=>(⟨x.toArray⟩:ByteArray))=t:=by
 rw [List.map_map,List.map_congr_left (f:=(fun p:ByteArray=>p.data.toList) ∘ fun x:List UInt8=>(⟨x.toArray⟩:ByteArray)) (g:=id) (fun x _=>by simp),List.map_id]
 have hp:=List.mergeSort_perm (l.map fun p=>p.data.toList) (fun x y=>decide (x≤y))
 have hs:=List.pairwise_mergeSort (le:=fun(x y:List UInt8)=>decide (x≤y)) (fun a b c h1 h2=>by
  simp only [zdc,Bool.not_eq_true']at *
  exact zm1 h1 h2) (fun a b=>by
  simp only [zdc]
  cases h:Op.bytesLess b a with
  | false=>rfl
  | true=>rw [z2o b a h];rfl) (l.map fun p=>p.data.toList)
 generalize (l.map fun p=>p.data.toList).mergeSort (fun x y=>decide (x≤y))=s at *
 have key:=z4e s.toArray (fun i j hij hj=>by
  have hj':j<s.length:=by simpa using hj
  rw [getElem!_pos s.toArray i (by simp;omega),getElem!_pos s.toArray j (by simpa using hj')]
  simp only [List.getElem_toArray]
  by_cases e:i=j
  ·subst e
   cases h:Op.bytesLess s[i] s[i]with
   | false=>rfl
   | true=>have:=z2o _ _ h;rw [h]at this;cases this
  ·have:=List.pairwise_iff_getElem.1 hs i j (by omega) hj' (by omega)
   simpa [zdc]using this) s.length (by simp)
 unfold compact
 refine IncB.unique ?_ ht fun p=>?_
 ·unfold IncB
  rw [List.pairwise_map]
  refine key.1.imp fun {a b} h=>?_
  unfold ltB
  rw [ByteArray.toList_eq,ByteArray.toList_eq]
  exact h
 ·rw [hm,List.mem_map]
  have hms:∀ x,x∈compactUpTo s.toArray s.length ↔ x∈s:=fun x=>by
   constructor
   ·intro hx
    obtain⟨j,hj,e⟩:=key.2.1 x hx
    rw [getElem!_pos s.toArray j (by simpa using hj)]at e
    simp only [List.getElem_toArray]at e
    rw [← e]
    exact List.getElem_mem hj
   ·intro hx
    obtain⟨j,hj,e⟩:=List.mem_iff_getElem.1 hx
    have:=key.2.2 j hj
    rw [getElem!_pos s.toArray j (by simpa using hj)]at this
    simp only [List.getElem_toArray]at this
    rwa [e]at this
  constructor
  ·rintro⟨x,hx,rfl⟩
   have h1:=hp.mem_iff.1 ((hms x).1 hx)
   obtain⟨q,hq,rfl⟩:=List.mem_map.1 h1
   exact hq
  ·intro hpl
   exact⟨p.data.toList,(hms _).2 (hp.mem_iff.2 (List.mem_map.2 ⟨p,hpl,rfl⟩)),rfl⟩
end
section
open Go.Proofs.Tryz
def backK (l:List (Int×Int))(a:Int):Nat→Nat
 | 0=>0
 | k+1=>if a<(l.getD k (0,0)).1 then backK l a k else k+1
def insS (l:List (Int×Int))(x:Int×Int):List (Int×Int):=l.take (backK l x.1 l.length)++([x]++l.drop (backK l x.1 l.length))
def insAll (l:List (Int×Int)):List (Int×Int):=l.foldl insS []
theorem zd6 (l:List (Int×Int))(x:Int×Int):insAll (l++[x])=insS (insAll l) x:=by
 unfold insAll
 rw [List.foldl_append]
 rfl
theorem ze9 (l:List (Int×Int))(a:Int):∀ k,backK l a k≤k
 | 0=>zq _
 | k+1=>by
  have:=ze9 l a k
  unfold backK
  split<;>omega
theorem z6o (l:List (Int×Int))(a:Int):∀ k i,backK l a k≤i→i<k→a<(l.getD i (0,0)).1
 | 0,i,_,h=>by omega
 | k+1,i,h1,h2=>by
  unfold backK at h1
  split at h1
  ·rename_i hc
   rcases Nat.lt_or_ge i k with h | h
   ·exact z6o l a k i h1 h
   ·obtain rfl:i=k:=by omega
    exact hc
  ·omega
theorem ze8 (l:List (Int×Int))(a:Int):∀ k j,backK l a k=j+1→(l.getD j (0,0)).1≤a
 | 0,j,h=>by cases h
 | k+1,j,h=>by
  unfold backK at h
  split at h
  ·exact ze8 l a k j h
  ·rename_i hc
   obtain rfl:k=j:=by omega
   omega
theorem zbc (l:List (Int×Int))(x:Int×Int):(insS l x).Perm (l++[x]):=by
 unfold insS
 generalize backK l x.1 l.length=k
 have h1:([x]++l.drop k).Perm (l.drop k++[x]):=List.perm_append_comm
 have h2:=h1.append_left (l.take k)
 have e:l.take k++(l.drop k++[x])=l++[x]:=by rw [← List.append_assoc,List.take_append_drop]
 rwa [e]at h2
theorem zem (l:List (Int×Int))(x:Int×Int):(insS l x).length=l.length+1:=by
 have:=(zbc l x).length_eq
 simpa using this
theorem zd7 (l:List (Int×Int))(x:Int×Int)(h:l.Pairwise (fun a b=>a.1≤b.1)):(insS l x).Pairwise (fun a b=>a.1≤b.1):=by
 have ha:=z6o l x.1 l.length
 have hat:=ze8 l x.1 l.length
 have hle:=ze9 l x.1 l.length
 unfold insS
 generalize backK l x.1 l.length=k at *
 have hg:∀ i (hi:i<l.length),l.getD i (0,0)=l[i]:=fun i hi=>by simp [hi]
 have hd:∀ b∈l.drop k,x.1≤b.1:=fun b hb=>by
  obtain⟨i,hi,rfl⟩:=List.getElem_of_mem hb
  have hi2:k+i<l.length:=by rw [List.length_drop]at hi;omega
  have:=ha (k+i) (by omega) hi2
  rw [hg _ hi2]at this
  rw [List.getElem_drop]
  omega
 have ht:∀ a∈l.take k,a.1≤x.1:=fun a hm=>by
  obtain⟨i,hi,rfl⟩:=List.getElem_of_mem hm
  rw [List.length_take]at hi
  rw [List.getElem_take]
  obtain⟨k',rfl⟩:∃ k',k=k'+1:=⟨k - 1,by omega⟩
  have h2:=hat k' rfl
  rw [hg k' (by omega)]at h2
  rcases Nat.lt_or_ge i k' with h3 | h3
  ·have:=List.pairwise_iff_getElem.1 h i k' (by omega) (by omega) h3
   omega
  ·obtain rfl:i=k':=by omega
   exact h2
 refine List.pairwise_append.2 ⟨h.sublist (List.take_sublist _ _),?_,fun a hm b hb=>?_⟩
 ·rw [List.singleton_append,List.pairwise_cons]
  exact⟨hd,h.sublist (List.drop_sublist _ _)⟩
 ·rw [List.singleton_append]at hb
  rcases List.mem_cons.1 hb with rfl | hb
  ·exact ht a hm
  ·have:=ht a hm
   have:=hd b hb
   omega
theorem z6z:∀ (l acc:List (Int×Int)),acc.Pairwise (fun a b=>a.1≤b.1)→(l.foldl insS acc).Perm (acc++l)∧(l.foldl insS acc).Pairwise (fun a b=>a.1≤b.1)
 | [],acc,h=>⟨by simp,h⟩
 | x::l,acc,h=>by
  obtain⟨h1,h2⟩:=z6z l (insS acc x) (zd7 acc x h)
  refine⟨h1.trans ?_,h2⟩
  have:=(zbc acc x).append_right l
  simpa using this
theorem z73 (l:List (Int×Int)):(insAll l).Perm l:=by
 have:=(z6z l [] List.Pairwise.nil).1
 rwa [List.nil_append]at this
theorem z9v (l:List (Int×Int)):(insAll l).Pairwise (fun a b=>a.1≤b.1):=(z6z l [] List.Pairwise.nil).2
theorem z8i (l:List (Int×Int)):(insAll l).length=l.length:=(z73 l).length_eq
theorem zhy (s:List (Int×Int)):mergeS (insAll (clampS s))=canon s:=z49 (z73 _) (z9v _)
theorem zfn (l:List (Int×Int))(x:Int×Int):clampS (l++[x])=if (clamp x).1<(clamp x).2 then clampS l++[clamp x] else clampS l:=by
 unfold clampS
 rw [List.map_append,List.filter_append]
 by_cases h:(clamp x).1<(clamp x).2<;>simp [h]
theorem zdf (l:List (Int×Int))(x:Int×Int):mergeS (l++[x])=joinS (mergeS l) x:=by
 unfold mergeS
 rw [List.foldl_append]
 rfl
end
section
open Go.Proofs.Tryz Go Go.RowKit Go.Sort
theorem z3r {P:Program}{ops:Array Oper}{o:Oper}{a:Act}{w:World}{K:Act→World→Prop}{Q:Exit→Act→World→Prop}{E:Prop}(hgd:o.guard=none)(s x:Operand)(t:TypeId)
  (ho:o.op=.call { callee:=.builtin .append,args:=#[s,x],argTypes:=#[t,t] })
  (base:Nat) (e:TypeId) (i:TypeInfo) (z:Value) (size bytes:Nat) (ht:P.underlying t=some (.slice e)) (hi:P.info? e=some i) (hz:i.zero=some z)
  (hsize:i.size=size) (hby:i.bytes=bytes) (hzs:z.cells.size=size) (hsz:0<size)
  (v:Value) (n:Nat) (xs:List Value) (hs:a.eval s=v) (hown:w.ownsRow base e size v n xs)
  (ad:Addr) (m c:Nat) (news:List Value) (hx:a.eval x=.slice (some ad) m c) (hl:news.length=m*size) (hnews:∀ j u,news[j]? = some u→w.cell? (ad.add j)=some u) (h1:∀ u∈news,u.oneCell'=true)
  (h63:n+m≤maxLen) (hbytes:(n+m)*bytes≤140737488355328) (hbase:base≤w.heap.size)
  (h:∀ v' w',w'.ownsRow base e size v' (n+m) (xs++news)→w.grownBy w' v.ownBlock→K (a.put o.dst v') w') :
  if Region.wanted o (yielded ops a.tmps)=true then Oper.wp P o a w K Q else E:=by
 have hw:Region.wanted o (yielded ops a.tmps)=true:=by simp [Region.wanted,hgd]
 rw [if_pos hw]
 exact wp_append_own w s x t ho base e i z size bytes ht hi hz hsize hby hzs hsz v n xs hs hown ad m c news hx hl hnews h1 h63 hbytes hbase fun v' w' h2 h3 _=>h v' w' h2 h3
theorem z0n (a b:List (Int×Int)):spanCells (a++b)=spanCells a++spanCells b:=by unfold spanCells;rw [List.flatMap_append]
theorem z35 (es:List (Int×Int)):∀ u∈spanCells es,u.oneCell'=true:=fun u hu=>by
 unfold spanCells at hu
 obtain⟨x,_,hx⟩:=List.mem_flatMap.1 hu
 simp at hx
 rcases hx with rfl | rfl<;>rfl
theorem zku {W:World}{B n g cap:Nat}{l:List (Int×Int)}(h:W.ownsRow B 100 2 (.slice (some ⟨g,0,none⟩) n cap) n (spanCells l))(k:Nat) :
  ∀ j u,(spanCells (l.drop k))[j]? = some u→W.cell? ((⟨g,k*2,none⟩:Addr).add j)=some u:=fun j u hu=>by
 have hk:k≤l.length:=by
  rcases Nat.lt_or_ge l.length k with h1 | h1
  ·rw [List.drop_eq_nil_of_le (by omega)]at hu
   simp [spanCells]at hu
  ·exact h1
 have e:spanCells l=spanCells (l.take k)++spanCells (l.drop k):=by rw [← z0n,List.take_append_drop]
 have hl:(spanCells (l.take k)).length=k*2:=by rw [z0a,List.length_take,Nat.min_eq_left hk]
 have:=h.cells rfl (k*2+j) u (by rw [e,List.getElem?_append_right (by omega),hl,Nat.add_sub_cancel_left];exact hu)
 have e0:∀ o i,(⟨g,o,none⟩:Addr).add i=⟨g,o+i,none⟩:=fun o i=>by unfold Addr.add;split<;>simp_all
 rw [e0,Nat.zero_add]at this
 rw [e0]
 exact this
theorem zf5 {W:World}{B n g cap:Nat}{l:List (Int×Int)}(h:W.ownsRow B 100 2 (.slice (some ⟨g,0,none⟩) n cap) n (spanCells l))(k:Nat) :
  ∀ j u,(spanCells (l.take k))[j]? = some u→W.cell? ((⟨g,0,none⟩:Addr).add j)=some u:=fun j u hu=>by
 have e:spanCells l=spanCells (l.take k)++spanCells (l.drop k):=by rw [← z0n,List.take_append_drop]
 exact h.cells rfl j u (by rw [e,List.getElem?_append_left (zc hu)];exact hu)
theorem zih {W:World}{B n g cap:Nat}{l:List (Int×Int)}(h:W.ownsRow B 100 2 (.slice (some ⟨g,0,none⟩) n cap) n (spanCells l))(i:Nat)(x:Int×Int)(hx:l[i]? = some x) :
  W.cell? ⟨g,i*2,none⟩=some (intC x.1)∧W.cell? ⟨g,i*2+1,none⟩=some (intC x.2):=by
 obtain⟨h1,h2⟩:=z0u l i x hx
 have e:∀ j,(⟨g,0,none⟩:Addr).add j=⟨g,j,none⟩:=fun j=>by unfold Addr.add;split<;>simp_all
 have c1:=h.cells rfl _ _ h1
 have c2:=h.cells rfl _ _ h2
 rw [e]at c1 c2
 exact⟨c1,c2⟩
theorem z7e {W:World}{B n g cap:Nat}{l:List (Int×Int)}(h:W.ownsRow B 100 2 (.slice (some ⟨g,0,none⟩) n cap) n (spanCells l))(hn:n=l.length)(hc:n≤cap)(k:Nat) :
  ∃ ad:Addr,(if cap=k then some (⟨g,0,none⟩:Addr) else some ⟨g,k*2,none⟩)=some ad∧∀ j u,(spanCells (l.drop k))[j]? = some u→W.cell? (ad.add j)=some u:=by
 by_cases hk:cap=k
 ·refine⟨_,if_pos hk,fun j u hu=>?_⟩
  rw [List.drop_eq_nil_of_le (by omega)]at hu
  simp [spanCells]at hu
 ·exact⟨_,if_neg hk,zku h k⟩
theorem zef {l:List (Int×Int)}{k:Nat}:(spanCells (l.drop k)).length=(l.length - k)*2:=by rw [z0a,List.length_drop]
theorem zfd {l:List (Int×Int)}{k:Nat}(h:k≤l.length):(spanCells (l.take k)).length=k*2:=by rw [z0a,List.length_take,Nat.min_eq_left h]
theorem zf1 (a b:Int)(es:List (Int×Int)):∀ u∈[intC a,intC b]++spanCells es,u.oneCell'=true:=fun u hu=>by
 rcases List.mem_append.1 hu with hu | hu
 ·simp at hu
  rcases hu with rfl | rfl<;>rfl
 ·exact z35 es u hu
theorem zkb (pre:List (Int×Int))(y:Int×Int)(z:Int):(spanCells (pre++[y])).set (pre.length*2+1) (intC z)=spanCells (pre++[(y.1,z)]):=by
 rw [z1j,z1j,List.set_append_right _ _ (by rw [z0a];omega),z0a,Nat.add_sub_cancel_left]
 rfl
theorem zmc {W:World}{B B' e s n:Nat}{v:Value}{xs:List Value}(h:W.ownsRow B e s v n xs)(hB:B'≤B):W.ownsRow B' e s v n xs:=by
 refine⟨h.1,?_⟩
 rcases h.2 with h2 | ⟨g,cap,cur,rfl,hb,r⟩
 ·exact .inl h2
 ·exact .inr ⟨g,cap,cur,rfl,Nat.le_trans hB hb,r⟩
theorem z7v (v:Value)(s:List (Int×Int))(w:World)(hs:s.length≤1000000)(hE:SpansOf w.heap.size v s w) :
  Calls prog 147 #[v] w fun e w'=>∃ v',e=.returned v'∧w'.ownsRow w.heap.size 100 2 v' (canon s).length (spanCells (canon s))∧Below w.heap.size w w':=by
 obtain⟨ao,ec,rfl,hE⟩:=hE
 have HE:=zh hE
 clear hE
 obtain⟨i0,hi0',hz0,hz1,hz2⟩:=info_parts z5e
 go_enter func147,ntmps147
 go_wp2_with fail
 go_loopw [3,4] (fun o p wr=>∃ (k:Nat),k≤s.length∧p=.int .i64 k∧Hid (∃ g c,o=.slice (some ⟨g,0,none⟩) (insAll (clampS (s.take k))).length c)∧Hid (wr.ownsRow w.heap.size 100 2 o (insAll (clampS (s.take k))).length (spanCells (insAll (clampS (s.take k)))))∧Hid (Below w.heap.size w wr)) (fun _ p _=>s.length - (intOf p).toNat)
 case atStart=>exact⟨0,by omega,rfl,zh ⟨_,_,rfl⟩,zh (World.ownsRow_made w #[] 0 (zq _) (by decide) rfl),zh ((Below.refl _ _).alloc (zq _) _)⟩
 case round =>
  obtain⟨k,hk,rfl,HSH,HO,HB⟩:=hrel
  have hszr:=HB.out.size
  by_cases hlt:k<s.length
  ·obtain⟨b,off,rfl,hb,hc1,hc2⟩:=HE.out k s[k] (by simp [hlt])
   have hbne:b≠wr.heap.size:=by omega
   have hc1:=(HB.out.cell (p:=⟨b,off+k*2,none⟩) hb).trans hc1
   have hc2:=(HB.out.cell (p:=⟨b,off+k*2+1,none⟩) hb).trans hc2
   have HT:Hid (clampS (s.take (k+1))=if (clamp s[k]).1<(clamp s[k]).2 then clampS (s.take k)++[clamp s[k]] else clampS (s.take k)):=zh (by rw [zs hlt,zfn])
   have hlen:(insAll (clampS (s.take k))).length≤k:=by rw [z8i];exact Nat.le_trans (z2m _) (List.length_take_le _ _)
   obtain⟨⟨x1,x2⟩,hx⟩:∃ x,x=s[k]:=⟨_,rfl⟩
   rw [← hx]at hc1 hc2 HT
   clear hx
   simp only at hc1 hc2
   have hcl:clamp (x1,x2)=(max 0 x1,min 1000000 x2):=by unfold clamp;rw [Int.max_comm,Int.min_comm]
   rw [hcl]at HT
   simp only at HT
   clear hcl
   have hd1:=cellA (.cells #[.int .i64 0,.int .i64 0] 100) hc1
   have hd2:=cellA (.cells #[.int .i64 0,.int .i64 0] 100) hc2
   by_cases hin:max 0 x1<min 1000000 x2
   ·have hin2:¬ min 1000000 x2≤max 0 x1:=by omega
    have HT2:=zh (show insAll (clampS (s.take (k+1)))=insS (insAll (clampS (s.take k))) (max 0 x1,min 1000000 x2) by rw [HT.out,if_pos hin,zd6])
    obtain⟨g,c,rfl⟩:=HSH.out
    have hgl:=(HO.out.lt g rfl).2
    have HCP:Hid ((insAll (clampS (s.take k))).length≤c):=zh (by
     rcases HO.out.2 with ⟨h1,_⟩ | ⟨g',c',cur,h1,_,_,h2,_⟩
     ·cases h1
     ·cases h1;exact h2)
    generalize insAll (clampS (s.take k))=L at *
    clear HT HSH
    go_wp2_with fail
    go_region
    go_wp2_with fail
    obtain⟨W,hW⟩:∃ W,(wr.alloc (.cells #[.int .i64 (max 0 x1),.int .i64 (min 1000000 x2)] 100)).drew=W:=⟨_,rfl⟩
    rw [hW]
    have HOW:Hid (W.ownsRow w.heap.size 100 2 (.slice (some ⟨g,0,none⟩) L.length c) L.length (spanCells L)):=zh (by rw [← hW];exact HO.out.alloc _)
    have HBW:Hid (Below w.heap.size w W):=zh (by rw [← hW];exact(HB.out.alloc hszr _).drew)
    obtain⟨B0,hB0⟩:∃ B0,wr.heap.size=B0:=⟨_,rfl⟩
    have b0:W.cell? ⟨B0,0,none⟩=some (intC (max 0 x1)):=by rw [← hW,← hB0];simp [go_sem]
    have b1:W.cell? ⟨B0,1,none⟩=some (intC (min 1000000 x2)):=by rw [← hW,← hB0];simp [go_sem]
    rw [hB0]at *
    clear hc1 hc2 hd1 hd2 hW HO HB hin hB0
    go_loopw [6] (fun kv wq=>∃ j:Nat,j≤L.length∧kv=.int .i64 j∧Hid (backK L (max 0 x1) j=backK L (max 0 x1) L.length)∧Hid (∃ n,wq=W.drewN n)) (fun kv _=>(intOf kv).toNat)
    case atStart=>exact⟨L.length,zq _,rfl,zh rfl,zh ⟨0,rfl⟩⟩
    case round =>
     obtain⟨j,hj,rfl,HK,HW⟩:=hrel
     obtain⟨n,hn⟩:=HW.out
     subst hn
     have hjc:j≤c:=Nat.le_trans hj HCP.out
     have hjc2:(j:Int)≤(c:Int):=by omega
     have hjl:(j:Int)≤(L.length:Int):=by omega
     have hj1:(0:Int)≤(j:Int):=by omega
     by_cases hj0:0<j
     ·obtain⟨i,hi⟩:∃ i,j=i+1:=⟨j - 1,by omega⟩
      have hil:i<L.length:=by omega
      have hy:=zih HOW.out i L[i] (by simp [hil])
      have HG:Hid (L.getD i (0,0)=L[i]):=zh (by simp [hil])
      obtain⟨⟨y1,y2⟩,hyx⟩:∃ y,y=L[i]:=⟨_,rfl⟩
      rw [← hyx]at hy HG
      obtain⟨y0,_⟩:=hy
      clear hyx
      have hn1:IntKind.i64.wrap ((j:Int) - 1)=(i:Int):=by rw [IntWalk.i64_in _ (by omega)];omega
      have hn4:(0:Int)≤(i:Int):=by omega
      have hn3:(i:Int)<(L.length:Int):=by omega
      have hn5:(0:Int)<(j:Int):=by omega
      have HJ:=zh hi
      clear hi
      by_cases hgt:max 0 x1<y1
      ·go_wp2_with fail
       go_quiet (fail)
       go_wp2_with fail
       go_roundw
       case rel =>
        refine⟨i,by omega,rfl,zh ?_,zh ⟨_,rfl⟩⟩
        rw [← HK.out,HJ.out]
        conv=>rhs;unfold backK
        rw [if_pos (by rw [HG.out];exact hgt)]
       case measure=>have:=HJ.out;simp [intOf];omega
      ·have HINS:Hid (backK L (max 0 x1) L.length=j):=zh (by
        rw [← HK.out,HJ.out]
        unfold backK
        rw [if_neg (by rw [HG.out];exact hgt)])
       clear HG HK
       go_wp2_with fail
       go_quiet (fail)
       go_wp2_with fail
       clear y0
       rw [World.drewN_drewN]
       obtain⟨V,hV⟩:∃ V,W.drewN (n+nq)=V:=⟨_,rfl⟩
       rw [hV]
       have HOV:Hid (V.ownsRow w.heap.size 100 2 (.slice (some ⟨g,0,none⟩) L.length c) L.length (spanCells L)):=zh (by rw [← hV];exact HOW.out)
       have HBV:Hid (Below w.heap.size w V):=zh (by rw [← hV];exact below_drewN HBW.out _)
       have v0:V.cell? ⟨B0,0,none⟩=some (intC (max 0 x1)):=by rw [← hV];exact b0
       have v1:V.cell? ⟨B0,1,none⟩=some (intC (min 1000000 x2)):=by rw [← hV];exact b1
       clear b0 b1 hV HOW HBW
       have HS0:Hid (HeldC ⟨B0,0,none⟩ ⟨B0,1,none⟩ (intC (max 0 x1)) (intC (min 1000000 x2)) V.drew):=zh ⟨v0,v1⟩
       have HS1:Hid (HeldC ⟨B0,0,none⟩ ⟨B0,1,none⟩ (intC (max 0 x1)) (intC (min 1000000 x2)) (V.drew.alloc (.cells #[intC (max 0 x1),intC (min 1000000 x2)] 100))):=zh ⟨cellA _ v0,cellA _ v1⟩
       have hv1:=HBV.out.size
       have hbl:B0<V.heap.size:=World.block_lt_of_cell? _ _ v0
       have HXO:Hid (((V.alloc (.cells #[intC (max 0 x1),intC (min 1000000 x2)] 100)).drew).ownsRow V.heap.size 100 2 (.slice (some ⟨V.heap.size,0,none⟩) 1 1) 1 [intC (max 0 x1),intC (min 1000000 x2)]):=zh (World.ownsRow_lit (base:=V.heap.size) V #[intC (max 0 x1),intC (min 1000000 x2)] 1 (zq _) (by decide) rfl).drew
       obtain⟨ad,had,hadc⟩:=z7e ((HOV.out.alloc (.cells #[intC (max 0 x1),intC (min 1000000 x2)] 100)).drew) rfl HCP.out j
       have HAD:=zh hadc
       have HSG:Hid (∀ w5,((V.alloc (.cells #[intC (max 0 x1),intC (min 1000000 x2)] 100)).drew).grownBy w5 (Value.slice (some ⟨V.heap.size,0,none⟩) 1 1).ownBlock→HeldC ⟨B0,0,none⟩ ⟨B0,1,none⟩ (intC (max 0 x1)) (intC (min 1000000 x2)) w5):=zh fun w5 hg=>⟨hg.cell (cellA _ v0) (by simp [Value.ownBlock];omega),hg.cell (cellA _ v1) (by simp [Value.ownBlock];omega)⟩
       have HLG:Hid (∀ w5,((V.alloc (.cells #[intC (max 0 x1),intC (min 1000000 x2)] 100)).drew).grownBy w5 (Value.slice (some ⟨V.heap.size,0,none⟩) 1 1).ownBlock→w5.ownsRow w.heap.size 100 2 (.slice (some ⟨g,0,none⟩) L.length c) L.length (spanCells L)):=zh fun w5 hg=>((HOV.out.alloc _).drew).kept hg (by have:=(HOV.out.lt g rfl).2;simp [Value.ownBlock];omega)
       have HBG:Hid (∀ w5,((V.alloc (.cells #[intC (max 0 x1),intC (min 1000000 x2)] 100)).drew).grownBy w5 (Value.slice (some ⟨V.heap.size,0,none⟩) 1 1).ownBlock→Below w.heap.size w w5):=zh fun w5 hg=>((HBV.out.alloc hv1 _).drew).grown hg (by simp;omega) (fun j hj=>by simp [Value.ownBlock]at hj;omega)
       clear hadc v0 v1
       refine wp_region_noPanic ?_
       refine z0j (S:=HeldC ⟨B0,0,none⟩ ⟨B0,1,none⟩ (intC (max 0 x1)) (intC (min 1000000 x2))) 11 (by kernel_rfl) (by kernel_rfl) ?_
       simp only [List.take_succ_cons,List.take_zero]
       have hS0:=HS0.out
       refine zt 0 _ rfl ?_;simp only [zl1];refine zt 1 _ rfl ?_;simp only [zl1];refine zt 2 _ rfl ?_;simp only [zl1];refine zt 3 _ rfl ?_;simp only [zl1];refine zt 4 _ rfl ?_;simp only [zl1];refine zt 6 _ rfl ?_;simp only [zl1];refine zt 7 _ rfl ?_;simp only [zl1];refine zt 8 _ rfl ?_;simp only [zl1]
       refine zr 5 rfl fun K hK=>?_
       go_simp
       refine hK.out _ _ HS1.out (fun _=>?_)
       clear hK K hS0
       (try simp only [zl1])
       refine zr 9 rfl fun K hK=>?_
       refine z3r (by rfl) _ _ _ (by rfl) V.heap.size 100 i0 _ 2 16 underlying87 hi0' hz0 hz1 hz2 rfl (by decide) _ 1 [intC (max 0 x1),intC (min 1000000 x2)] (by rfl) HXO.out ad (L.length - j) (c - j) (spanCells (L.drop j)) (by rfl) zef HAD.out (z35 _) (by unfold maxLen;omega) (by omega) (by simp) ?_
       intro v5 w5 hown5 hgrow5
       obtain⟨g5,c5,rfl⟩:=Go.Joins.ownsRow_form hown5 (by omega)
       have hS5:HeldC ⟨B0,0,none⟩ ⟨B0,1,none⟩ (intC (max 0 x1)) (intC (min 1000000 x2)) w5:=HSG.out w5 hgrow5
       have HS5:=zh hS5
       have HO5:=zh (HLG.out w5 hgrow5)
       have HB5:=zh (HBG.out w5 hgrow5)
       have HN5:=zh hown5
       refine hK.out _ _ hS5 (fun _=>?_)
       clear hK K hS5 hown5 hgrow5
       (try simp only [zl1])
       refine zr 10 rfl fun K hK=>?_
       refine step_append_grows (by rfl) _ _ _ (by rfl) 100 i0 _ 2 16 underlying87 hi0' hz0 hz1 hz2 rfl (by decide) (some ⟨g,0,none⟩) j j (spanCells (L.take j)) (by rfl) (fun h=>by cases h) (zfd hj) (fun b hb=>by cases hb;exact zf5 HO5.out j) ⟨g5,0,none⟩ (1+(L.length - j)) c5 _ (by rfl) HN5.out.1 (HN5.out.cells rfl) (zf1 _ _ _) (by omega) (by unfold maxLen;omega) (by omega) ?_
       intro v6 w6 hown6 hgrow6
       obtain⟨g6,c6,rfl⟩:=Go.Joins.ownsRow_form hown6 (by omega)
       have HO6:=zh hown6
       have HB6:Hid (Below w.heap.size w w6):=zh (HB5.out.grown hgrow6 HB5.out.size (fun j hj=>by cases hj))
       have hS6:HeldC ⟨B0,0,none⟩ ⟨B0,1,none⟩ (intC (max 0 x1)) (intC (min 1000000 x2)) w6:=⟨hgrow6.cell (HS5.out).1 (by simp),hgrow6.cell (HS5.out).2 (by simp)⟩
       refine hK.out _ _ hS6 (fun _=>?_)
       clear hK K hS6 hown6 hgrow6
       (try simp only [zl1])
       refine wpAnyH_done (by kernel_rfl) ?_ _
       show wpList _ _ _ _ _ _
       simp only [List.drop_succ_cons,List.drop_zero]
       go_wp2_with fail
       refine NoPanic.normal ?_
       all_goals go_wp2_with fail
       all_goals
        go_roundw
        case rel =>
         have e1:j+(1+(L.length - j))=(insS L (max 0 x1,min 1000000 x2)).length:=by rw [zem];omega
         have e2:spanCells (L.take j)++([intC (max 0 x1),intC (min 1000000 x2)]++spanCells (L.drop j))=spanCells (insS L (max 0 x1,min 1000000 x2)):=by
          unfold insS
          rw [HINS.out,z0n,z0n]
          rfl
         refine⟨k+1,by omega,by go_num,zh ?_,zh ?_,HB6⟩
         ·rw [HT2.out];exact⟨g6,c6,by rw [e1]⟩
         ·rw [HT2.out,← e1,← e2];exact Go.Joins.ownsRow_le HO6.out HB5.out.size
        case measure=>simp [intOf];omega
     ·have HINS:Hid (backK L (max 0 x1) L.length=j):=zh (by
       obtain rfl:j=0:=by omega
       rw [← HK.out];rfl)
      have hn5:¬ (0:Int)<(j:Int):=by omega
      clear HK
      go_wp2_with fail
      go_quiet (fail)
      go_wp2_with fail
      rw [World.drewN_drewN]
      obtain⟨V,hV⟩:∃ V,W.drewN (n+nq)=V:=⟨_,rfl⟩
      rw [hV]
      have HOV:Hid (V.ownsRow w.heap.size 100 2 (.slice (some ⟨g,0,none⟩) L.length c) L.length (spanCells L)):=zh (by rw [← hV];exact HOW.out)
      have HBV:Hid (Below w.heap.size w V):=zh (by rw [← hV];exact below_drewN HBW.out _)
      have v0:V.cell? ⟨B0,0,none⟩=some (intC (max 0 x1)):=by rw [← hV];exact b0
      have v1:V.cell? ⟨B0,1,none⟩=some (intC (min 1000000 x2)):=by rw [← hV];exact b1
      clear b0 b1 hV HOW HBW
      have HS0:Hid (HeldC ⟨B0,0,none⟩ ⟨B0,1,none⟩ (intC (max 0 x1)) (intC (min 1000000 x2)) V.drew):=zh ⟨v0,v1⟩
      have HS1:Hid (HeldC ⟨B0,0,none⟩ ⟨B0,1,none⟩ (intC (max 0 x1)) (intC (min 1000000 x2)) (V.drew.alloc (.cells #[intC (max 0 x1),intC (min 1000000 x2)] 100))):=zh ⟨cellA _ v0,cellA _ v1⟩
      have hv1:=HBV.out.size
      have hbl:B0<V.heap.size:=World.block_lt_of_cell? _ _ v0
      have HXO:Hid (((V.alloc (.cells #[intC (max 0 x1),intC (min 1000000 x2)] 100)).drew).ownsRow V.heap.size 100 2 (.slice (some ⟨V.heap.size,0,none⟩) 1 1) 1 [intC (max 0 x1),intC (min 1000000 x2)]):=zh (World.ownsRow_lit (base:=V.heap.size) V #[intC (max 0 x1),intC (min 1000000 x2)] 1 (zq _) (by decide) rfl).drew
      obtain⟨ad,had,hadc⟩:=z7e ((HOV.out.alloc (.cells #[intC (max 0 x1),intC (min 1000000 x2)] 100)).drew) rfl HCP.out j
      have HAD:=zh hadc
      have HSG:Hid (∀ w5,((V.alloc (.cells #[intC (max 0 x1),intC (min 1000000 x2)] 100)).drew).grownBy w5 (Value.slice (some ⟨V.heap.size,0,none⟩) 1 1).ownBlock→HeldC ⟨B0,0,none⟩ ⟨B0,1,none⟩ (intC (max 0 x1)) (intC (min 1000000 x2)) w5):=zh fun w5 hg=>⟨hg.cell (cellA _ v0) (by simp [Value.ownBlock];omega),hg.cell (cellA _ v1) (by simp [Value.ownBlock];omega)⟩
      have HLG:Hid (∀ w5,((V.alloc (.cells #[intC (max 0 x1),intC (min 1000000 x2)] 100)).drew).grownBy w5 (Value.slice (some ⟨V.heap.size,0,none⟩) 1 1).ownBlock→w5.ownsRow w.heap.size 100 2 (.slice (some ⟨g,0,none⟩) L.length c) L.length (spanCells L)):=zh fun w5 hg=>((HOV.out.alloc _).drew).kept hg (by have:=(HOV.out.lt g rfl).2;simp [Value.ownBlock];omega)
      have HBG:Hid (∀ w5,((V.alloc (.cells #[intC (max 0 x1),intC (min 1000000 x2)] 100)).drew).grownBy w5 (Value.slice (some ⟨V.heap.size,0,none⟩) 1 1).ownBlock→Below w.heap.size w w5):=zh fun w5 hg=>((HBV.out.alloc hv1 _).drew).grown hg (by simp;omega) (fun j hj=>by simp [Value.ownBlock]at hj;omega)
      clear hadc v0 v1
      refine wp_region_noPanic ?_
      refine z0j (S:=HeldC ⟨B0,0,none⟩ ⟨B0,1,none⟩ (intC (max 0 x1)) (intC (min 1000000 x2))) 11 (by kernel_rfl) (by kernel_rfl) ?_
      simp only [List.take_succ_cons,List.take_zero]
      have hS0:=HS0.out
      refine zt 0 _ rfl ?_;simp only [zl1];refine zt 1 _ rfl ?_;simp only [zl1];refine zt 2 _ rfl ?_;simp only [zl1];refine zt 3 _ rfl ?_;simp only [zl1];refine zt 4 _ rfl ?_;simp only [zl1];refine zt 6 _ rfl ?_;simp only [zl1];refine zt 7 _ rfl ?_;simp only [zl1];refine zt 8 _ rfl ?_;simp only [zl1]
      refine zr 5 rfl fun K hK=>?_
      go_simp
      refine hK.out _ _ HS1.out (fun _=>?_)
      clear hK K hS0
      (try simp only [zl1])
      refine zr 9 rfl fun K hK=>?_
      refine z3r (by rfl) _ _ _ (by rfl) V.heap.size 100 i0 _ 2 16 underlying87 hi0' hz0 hz1 hz2 rfl (by decide) _ 1 [intC (max 0 x1),intC (min 1000000 x2)] (by rfl) HXO.out ad (L.length - j) (c - j) (spanCells (L.drop j)) (by rfl) zef HAD.out (z35 _) (by unfold maxLen;omega) (by omega) (by simp) ?_
      intro v5 w5 hown5 hgrow5
      obtain⟨g5,c5,rfl⟩:=Go.Joins.ownsRow_form hown5 (by omega)
      have hS5:HeldC ⟨B0,0,none⟩ ⟨B0,1,none⟩ (intC (max 0 x1)) (intC (min 1000000 x2)) w5:=HSG.out w5 hgrow5
      have HS5:=zh hS5
      have HO5:=zh (HLG.out w5 hgrow5)
      have HB5:=zh (HBG.out w5 hgrow5)
      have HN5:=zh hown5
      refine hK.out _ _ hS5 (fun _=>?_)
      clear hK K hS5 hown5 hgrow5
      (try simp only [zl1])
      refine zr 10 rfl fun K hK=>?_
      refine step_append_grows (by rfl) _ _ _ (by rfl) 100 i0 _ 2 16 underlying87 hi0' hz0 hz1 hz2 rfl (by decide) (some ⟨g,0,none⟩) j j (spanCells (L.take j)) (by rfl) (fun h=>by cases h) (zfd hj) (fun b hb=>by cases hb;exact zf5 HO5.out j) ⟨g5,0,none⟩ (1+(L.length - j)) c5 _ (by rfl) HN5.out.1 (HN5.out.cells rfl) (zf1 _ _ _) (by omega) (by unfold maxLen;omega) (by omega) ?_
      intro v6 w6 hown6 hgrow6
      obtain⟨g6,c6,rfl⟩:=Go.Joins.ownsRow_form hown6 (by omega)
      have HO6:=zh hown6
      have HB6:Hid (Below w.heap.size w w6):=zh (HB5.out.grown hgrow6 HB5.out.size (fun j hj=>by cases hj))
      have hS6:HeldC ⟨B0,0,none⟩ ⟨B0,1,none⟩ (intC (max 0 x1)) (intC (min 1000000 x2)) w6:=⟨hgrow6.cell (HS5.out).1 (by simp),hgrow6.cell (HS5.out).2 (by simp)⟩
      refine hK.out _ _ hS6 (fun _=>?_)
      clear hK K hS6 hown6 hgrow6
      (try simp only [zl1])
      refine wpAnyH_done (by kernel_rfl) ?_ _
      show wpList _ _ _ _ _ _
      simp only [List.drop_succ_cons,List.drop_zero]
      go_wp2_with fail
      refine NoPanic.normal ?_
      all_goals go_wp2_with fail
      all_goals
       go_roundw
       case rel =>
        have e1:j+(1+(L.length - j))=(insS L (max 0 x1,min 1000000 x2)).length:=by rw [zem];omega
        have e2:spanCells (L.take j)++([intC (max 0 x1),intC (min 1000000 x2)]++spanCells (L.drop j))=spanCells (insS L (max 0 x1,min 1000000 x2)):=by
         unfold insS
         rw [HINS.out,z0n,z0n]
         rfl
        refine⟨k+1,by omega,by go_num,zh ?_,zh ?_,HB6⟩
        ·rw [HT2.out];exact⟨g6,c6,by rw [e1]⟩
        ·rw [HT2.out,← e1,← e2];exact Go.Joins.ownsRow_le HO6.out HB5.out.size
       case measure=>simp [intOf];omega
   ·have hin2:min 1000000 x2≤max 0 x1:=by omega
    go_wp2_with fail
    go_region
    go_wp2_with fail
    go_roundw
    case rel =>
     refine⟨k+1,by omega,by go_num,?_,?_,zh ?_⟩
     ·rw [HT.out,if_neg (Int.not_lt.2 hin)];exact HSH
     ·rw [HT.out,if_neg (Int.not_lt.2 hin)]
      exact zh (HO.out.alloc _)
     ·exact(HB.out.alloc hszr _).drew
    case measure=>simp [intOf];omega
  ·have hkk:k=s.length:=by omega
   subst hkk
   rw [List.take_length]at HO HSH
   have hic:=zhy s
   have hdl:(insAll (clampS s)).length≤s.length:=by rw [z8i];exact z2m s
   obtain⟨d,hd⟩:∃ d,insAll (clampS s)=d:=⟨_,rfl⟩
   rw [hd]at HO HSH hic hdl
   have HC:=zh hic
   obtain⟨g,c,rfl⟩:=HSH.out
   have hgl:=(HO.out.lt g rfl).2
   clear hd hic HSH
   obtain⟨wo,rfl⟩:∃ wo:World,wo=wr:=⟨_,rfl⟩
   go_wp2_with fail
   go_loopw [7,8] (fun o p wq=>∃ i:Nat,i≤d.length∧p=.int .i64 i∧Hid (∃ g2 c2,o=.slice (some ⟨g2,0,none⟩) (mergeS (d.take i)).length c2)∧Hid (wq.ownsRow wo.heap.size 100 2 o (mergeS (d.take i)).length (spanCells (mergeS (d.take i))))∧Hid (Below wo.heap.size wo wq)) (fun _ p _=>d.length - (intOf p).toNat)
   case atStart=>exact⟨0,by omega,rfl,zh ⟨_,_,rfl⟩,zh (World.ownsRow_made wo #[] 0 (zq _) (by decide) rfl),zh ((Below.refl _ _).alloc (zq _) _)⟩
   case round =>
    obtain⟨i,hi,rfl,HSH,HM,HB2⟩:=hrel
    have hszq:=HB2.out.size
    by_cases hlt:i<d.length
    ·have hml:=z3z (d.take i)
     have hml2:(d.take i).length=i:=by rw [List.length_take];omega
     have HJ:Hid (mergeS (d.take (i+1))=joinS (mergeS (d.take i)) d[i]):=zh (by rw [zs hlt,zdf])
     obtain⟨hc1,hc2⟩:=zih HO.out i d[i] (by simp [hlt])
     have hc1:=(HB2.out.cell (p:=⟨g,i*2,none⟩) hgl).trans hc1
     have hc2:=(HB2.out.cell (p:=⟨g,i*2+1,none⟩) hgl).trans hc2
     obtain⟨⟨x1,x2⟩,hx⟩:∃ x,x=d[i]:=⟨_,rfl⟩
     rw [← hx]at hc1 hc2 HJ
     clear hx
     simp only at hc1 hc2
     generalize mergeS (d.take i)=m at *
     have hmi:m.length≤i:=by omega
     clear hml hml2
     have HBA:Hid (∀ n W1,((wr.alloc (.cells #[intC x1,intC x2] 100)).drewN n).grownBy W1 u7.ownBlock→Below wo.heap.size wo W1):=zh (fun n W1 hg=>(below_drewN (HB2.out.alloc hszq _) n).grown hg (by show _≤(wr.alloc _).heap.size;simp;omega) (fun b hb=>(HM.out.lt b hb).1))
     rcases List.eq_nil_or_concat m with hm0 | ⟨pre,y,hm0⟩
     ·subst hm0
      rw [z4o]at HJ
      obtain⟨g2,c2,rfl⟩:=HSH.out
      clear HSH
      simp only [List.length_nil]at HM ⊢
      go_wp2_with fail
      go_quiet (fail)
      have HMA:Hid (∀ n,((wr.alloc (.cells #[intC x1,intC x2] 100)).drewN n).ownsRow wo.heap.size 100 2 (.slice (some ⟨g2,0,none⟩) 0 c2) 0 (spanCells ([]))):=zh fun n=>HM.out.alloc _
      go_wp2_with (at_builtin;refine wpList_append_own _ rfl _ _ 87 rfl wo.heap.size 100 i0 _ 2 16 underlying87 hi0' hz0 hz1 hz2 rfl (by decide) (.slice (some ⟨g2,0,none⟩) 0 c2) (0) _ (by rfl) (HMA.out _) ⟨wr.heap.size,0,none⟩ 1 1 [intC x1,intC x2] (by rfl) (by rfl) (World.news_of_block (cs:=#[intC x1,intC x2]) (t:=100) (fr:=(0,0)) (heap_alloc_new wr _)) (by simp [Value.oneCell']) (by unfold maxLen;omega) (by omega) (by show _≤(wr.alloc _).heap.size;simp;omega) ?_;intro v' w3 hown' hgrow _;have HOW3:=zh hown';have HBB3:=zh (HBA.out _ _ hgrow);clear hown' hgrow;obtain⟨gg,cap,rfl⟩:=ownsRow_succ HOW3.out)
      go_roundw
      case rel =>
       refine⟨i+1,by omega,by go_num,?_,zh ?_,HBB3⟩
       ·rw [HJ.out];exact zh ⟨gg,cap,rfl⟩
       ·rw [HJ.out];exact HOW3.out
      case measure=>simp [intOf];omega
     ·rw [List.concat_eq_append]at hm0
      subst hm0
      rw [z3w]at HJ
      obtain⟨g2,c2,rfl⟩:=HSH.out
      obtain⟨hy1,hy2⟩:=zih HM.out pre.length y (by simp)
      have hyf:=HM.out.frozenAt (pre.length*2+1)
      rw [List.length_append,List.length_singleton]at HM hmi
      rw [List.length_append,List.length_singleton]
      obtain⟨y1,y2⟩:=y
      simp only at hy1 hy2 HJ
      have hn1:IntKind.i64.wrap (((pre.length+1:Nat):Int) - 1)=(pre.length:Int):=by rw [IntWalk.i64_in _ (by omega)];omega
      have hn2:IntKind.i64.wrap ((pre.length:Int)+1 - 1)=(pre.length:Int):=by rw [IntWalk.i64_in _ (by omega)];omega
      have hn6:IntKind.i64.wrap (pre.length:Int)=(pre.length:Int):=IntWalk.i64_in _ (by omega)
      have hn4:(0:Int)≤(pre.length:Int):=by omega
      have hn5:(0:Int)<(pre.length:Int)+1:=by omega
      have hn3:(pre.length:Int)<(pre.length:Int)+1:=by omega
      clear HSH
      by_cases hle:x1≤y2
      ·go_wp2_with fail
       go_quiet (fail)
       go_wp2_with fail
       go_region
       go_wp2_with fail
       go_roundw
       case rel =>
        have hgb:=(HM.out.lt g2 rfl).1
        refine⟨i+1,by omega,by go_num,?_,zh ?_,zh ?_⟩
        ·rw [HJ.out,if_pos hle];exact zh ⟨g2,c2,by simp⟩
        ·rw [HJ.out,if_pos hle]
         show World.ownsRow _ _ _ _ _ _ (spanCells (pre++[((y1,y2).1,max y2 x2)]))
         rw [← zkb]
         simp only [List.length_append,List.length_singleton]
         exact(World.ownsRow.stored HM.out _ _).1
        ·exact(below_drewN HB2.out _).setCell hgb _
       case measure=>simp [intOf];omega
      ·have HNL:=zh hle
       go_wp2_with fail
       go_quiet (fail)
       have HMA:Hid (∀ n,((wr.alloc (.cells #[intC x1,intC x2] 100)).drewN n).ownsRow wo.heap.size 100 2 (.slice (some ⟨g2,0,none⟩) (pre.length+1) c2) (pre.length+1) (spanCells (pre++[(y1,y2)]))):=zh fun n=>HM.out.alloc _
       go_wp2_with (at_builtin;refine wpList_append_own _ rfl _ _ 87 rfl wo.heap.size 100 i0 _ 2 16 underlying87 hi0' hz0 hz1 hz2 rfl (by decide) (.slice (some ⟨g2,0,none⟩) (pre.length+1) c2) ((pre.length+1)) _ (by rfl) (HMA.out _) ⟨wr.heap.size,0,none⟩ 1 1 [intC x1,intC x2] (by rfl) (by rfl) (World.news_of_block (cs:=#[intC x1,intC x2]) (t:=100) (fr:=(0,0)) (heap_alloc_new wr _)) (by simp [Value.oneCell']) (by unfold maxLen;omega) (by omega) (by show _≤(wr.alloc _).heap.size;simp;omega) ?_;intro v' w3 hown' hgrow _;have HOW3:=zh hown';have HBB3:=zh (HBA.out _ _ hgrow);clear hown' hgrow;obtain⟨gg,cap,rfl⟩:=ownsRow_succ HOW3.out)
       go_roundw
       case rel =>
        refine⟨i+1,by omega,by go_num,?_,zh ?_,HBB3⟩
        ·rw [HJ.out];rw [if_neg (Int.not_le.2 HNL.out)];exact zh ⟨gg,cap,by simp⟩
        ·rw [HJ.out];rw [if_neg (Int.not_le.2 HNL.out)];rw [z1j];simp only [List.length_append,List.length_singleton]
         exact HOW3.out
       case measure=>simp [intOf];omega
    ·have hii:i=d.length:=by omega
     subst hii
     rw [List.take_length]at HM HSH
     obtain⟨g2,c2,rfl⟩:=HSH.out
     have hml:=z3z d
     rw [HC.out]at HM hml ⊢
     clear HSH
     go_wp2_with fail
     go_ret
     exact⟨_,rfl,zmc HM.out hszr,HB.out.trans (HB2.out.mono hszr)⟩
theorem z7u (v:Value)(s:List (Int×Int))(w:World)(hs:s.length≤1000000)(hE:SpansOf w.heap.size v s w) :
  Calls prog 147 #[v] w fun e w'=>∃ v',e=.returned v'∧SpansOf w'.heap.size v' (canon s) w'∧Below w.heap.size w w' :=
 (z7v v s w hs hE).mono fun e w' ⟨v',h1,h2,h3⟩=>⟨v',h1,zby h2,h3⟩
end
section
open Go.Proofs.Tryz Go Go.RowKit
def inR (p:Int)(x:Int×Int):Bool:=decide (max 0 x.1≤p)&&decide (p<min 1000000 x.2)
theorem zam {α:Type}{l:List α}{q:α→Bool}{x:α}(h:x∈l)(hx:q x=true):l.any q=true:=List.any_eq_true.2 ⟨x,h,hx⟩
theorem zct {α:Type}{l:List α}{q:α→Bool}(h:∀ x∈l,q x=false):l.any q=false:=by
 rw [← Bool.not_eq_true,List.any_eq_true]
 rintro⟨x,hx,h2⟩
 rw [h x hx]at h2
 cases h2
theorem zab {α:Type}{l:List α}{k:Nat}(hk:k<l.length){P:α→Prop}(h:∀ x∈l.take k,P x)(h2:P l[k]):∀ x∈l.take (k+1),P x:=fun x hx=>by
 rw [zs hk]at hx
 rcases List.mem_append.1 hx with hx | hx
 ·exact h x hx
 ·rcases List.mem_singleton.1 hx with rfl
  exact h2
theorem zkw (v:Value)(s:List (Int×Int))(p:Int)(w:World)(hs:s.length≤1000000)(hE:SpansOf w.heap.size v s w) :
  Calls prog 73 #[v,.int .i64 p] w fun e w'=>e=.returned (.bool (hasB s p))∧Below w.heap.size w w':=by
 obtain⟨ao,ec,rfl,hE⟩:=hE
 have HE:=zh hE
 clear hE
 obtain⟨q,hq⟩:∃ q,hasB s p=q:=⟨_,rfl⟩
 rw [hq]
 have HQ:=zh (show s.any (inR p)=q by rw [← hq];exact zk6 s p)
 clear hq
 go_enter func73,ntmps73
 go_wp2_with fail
 go_loopw [5] (fun i wr=>∃ (k:Nat),k≤s.length∧i=.int .i64 k∧Hid (∀ x∈s.take k,inR p x=false)∧Hid (Below w.heap.size w wr)) (fun i _=>s.length - (intOf i).toNat)
 case atStart=>exact⟨0,by omega,rfl,zh (by simp),zh (Below.refl _ _)⟩
 case round =>
  obtain⟨k,hk,rfl,HA,HB⟩:=hrel
  by_cases hlt:k<s.length
  ·obtain⟨b,off,rfl,hb,hc1,hc2⟩:=HE.out k s[k] (by simp [hlt])
   have hc1:=(HB.out.cell (p:=⟨b,off+k*2,none⟩) hb).trans hc1
   have hc2:=(HB.out.cell (p:=⟨b,off+k*2+1,none⟩) hb).trans hc2
   have HN:=zh (fun h=>zab hlt HA.out h)
   have HY:=zh (fun h=>zam (q:=inR p) (List.getElem_mem hlt) h)
   obtain⟨⟨x1,x2⟩,hx⟩:∃ x,x=s[k]:=⟨_,rfl⟩
   rw [← hx]at hc1 hc2 HN HY
   clear hx
   simp only at hc1 hc2
   by_cases h1:max 0 x1≤p
   ·by_cases h2:p<min 1000000 x2
    ·have HI:=zh (HY.out (by unfold inR;simp only [h1,h2];rfl))
     go_wp2_with fail
     go_ret
     exact⟨by rw [← HQ.out,HI.out];rfl,HB.out⟩
    ·have HI:=zh (HN.out (by unfold inR;simp only [h2];simp))
     go_wp2_with fail
     go_roundw
     case rel=>exact⟨k+1,by omega,by go_num,HI,HB⟩
     case measure=>simp [intOf];omega
   ·have HI:=zh (HN.out (by unfold inR;simp only [h1];simp))
    go_wp2_with fail
    go_roundw
    case rel=>exact⟨k+1,by omega,by go_num,HI,HB⟩
    case measure=>simp [intOf];omega
  ·have hkk:k=s.length:=by omega
   subst hkk
   rw [List.take_length]at HA
   go_wp2_with fail
   go_ret
   exact⟨by rw [← HQ.out,zct HA.out];rfl,HB.out⟩
theorem z2a {P:Program}{w:World}(base:Nat)(t ty e:TypeId)(i:TypeInfo)(size:Nat)(ht:P.underlying t=some (.slice e))(hi:P.info? e=some i)
  (v:Value) (n:Nat) (xs:List Value) (hown:w.ownsRow base e size v n xs) (c:Nat):(Builtin.append_ #[t,t] ty #[v,.slice none 0 c]).run P w=.ok v w:=by
 rcases hown.2 with ⟨rfl,rfl⟩ | ⟨g,cap,cur,rfl,_,_,hnc,_⟩
 ·simp [Builtin.append_,run_underlying ht,sizeOf,typeInfo,hi,Builtin.lenOf,Builtin.firstCells]
 ·simp [Builtin.append_,run_underlying ht,sizeOf,typeInfo,hi,Builtin.lenOf,Builtin.firstCells,hnc,storeCells]
def fewB (l:List (List (Int×Int))):Bool:=(l.all fun s=>decide (s.length≤30))&&decide (l.length≤6)
theorem zh0 (v u:Value)(a b:List (Int×Int))(w:World)(ha:a.length≤1000000000)(hb:b.length≤1000000000)(hE:SpansOf w.heap.size v a w)(hF:SpansOf w.heap.size u b w) :
  Calls prog 146 #[v,u] w fun e w'=>e=.returned (.bool (decide (a=b)))∧Below w.heap.size w w':=by
 obtain⟨ao,ec,rfl,hE⟩:=hE
 obtain⟨bo,fc,rfl,hF⟩:=hF
 have HE:=zh hE
 have HF:=zh hF
 clear hE hF
 obtain⟨q,hq⟩:∃ q,decide (a=b)=q:=⟨_,rfl⟩
 rw [hq]
 have HQ:=zh hq
 clear hq
 by_cases hl:a.length=b.length
 ·have hl2:((a.length:Int) == (b.length:Int))=true:=by simp [hl]
  have hl3:((a.length:Int) != (b.length:Int))=false:=by simp [hl]
  have HLN:=zh hl
  clear hl
  go_enter func146,ntmps146
  go_wp2_with fail
  go_loopw [5] (fun i wr=>∃ (k:Nat),k≤a.length∧i=.int .i64 k∧Hid (a.take k=b.take k)∧Hid (Below w.heap.size w wr)) (fun i _=>a.length - (intOf i).toNat)
  case atStart=>exact⟨0,by omega,rfl,zh (by simp),zh (Below.refl _ _)⟩
  case round =>
   obtain⟨k,hk,rfl,HA,HB⟩:=hrel
   by_cases hlt:k<a.length
   ·have hlt2:k<b.length:=by rw [← HLN.out];exact hlt
    obtain⟨b1,o1,rfl,hb1,hc1,hc2⟩:=HE.out k a[k] (by simp [hlt])
    obtain⟨b2,o2,rfl,hb2,hd1,hd2⟩:=HF.out k b[k] (by simp [hlt2])
    have hc1:=(HB.out.cell (p:=⟨b1,o1+k*2,none⟩) hb1).trans hc1
    have hc2:=(HB.out.cell (p:=⟨b1,o1+k*2+1,none⟩) hb1).trans hc2
    have hd1:=(HB.out.cell (p:=⟨b2,o2+k*2,none⟩) hb2).trans hd1
    have hd2:=(HB.out.cell (p:=⟨b2,o2+k*2+1,none⟩) hb2).trans hd2
    have HT1:=zh (zs hlt)
    have HT2:=zh (zs hlt2)
    have HG:Hid (a=b→a[k]=b[k]):=zh (fun h=>by subst h;rfl)
    obtain⟨⟨x1,x2⟩,hx⟩:∃ x,x=a[k]:=⟨_,rfl⟩
    obtain⟨⟨y1,y2⟩,hy⟩:∃ y,y=b[k]:=⟨_,rfl⟩
    rw [← hx]at hc1 hc2 HT1 HG
    rw [← hy]at hd1 hd2 HT2 HG
    clear hx hy
    simp only at hc1 hc2 hd1 hd2
    by_cases h1:x1=y1∧x2=y2
    ·obtain⟨rfl,rfl⟩:=h1
     go_wp2_with fail
     try go_region
     all_goals
      go_wp2_with fail
      go_roundw
      case rel=>exact⟨k+1,by omega,by go_num,zh (by rw [HT1.out,HT2.out,HA.out]),by first | exact HB | exact zh HB.out.drew | (refine zh ?_;have:=HB.out;exact this)⟩
      case measure=>simp [intOf];omega
    ·have HNE:Hid (q=false):=zh (by
      rw [← HQ.out]
      exact decide_eq_false fun h=>h1 (by have:=HG.out h;exact Prod.mk.inj this))
     rcases Classical.not_and_iff_not_or_not.1 h1 with h2 | h2
     all_goals
      clear h1
      go_wp2_with fail
      try go_region
      all_goals
       go_wp2_with fail
       go_ret
       exact⟨by rw [HNE.out];rfl,by first | exact HB.out | exact HB.out.drew⟩
   ·have hkk:k=a.length:=by omega
    subst hkk
    have HAB:Hid (q=true):=zh (by
     rw [← HQ.out]
     have:=HA.out
     rw [List.take_length,HLN.out,List.take_length]at this
     exact decide_eq_true this)
    go_wp2_with fail
    go_ret
    exact⟨by rw [HAB.out];rfl,HB.out⟩
 ·have hl2:((a.length:Int) == (b.length:Int))=false:=by simp;omega
  have hl3:((a.length:Int) != (b.length:Int))=true:=by simp;omega
  have HNE:Hid (q=false):=zh (by rw [← HQ.out];exact decide_eq_false fun h=>hl (by rw [h]))
  clear hl
  go_enter func146,ntmps146
  go_wp2_with fail
  go_ret
  exact⟨by rw [HNE.out];rfl,Below.refl _ _⟩
end
section
open Go.Proofs.Tryz Go Go.RowKit
theorem z05 {W:World}{B e s n:Nat}{v:Value}{xs:List Value}(h:W.ownsRow B e s v n xs):∃ a c,v=.slice a n c:=by
 rcases h.2 with ⟨rfl,rfl⟩ | ⟨g,cap,cur,rfl,_⟩
 ·exact⟨_,_,rfl⟩
 ·exact⟨_,_,rfl⟩
end
end Go.Proofs.YtapbhoodgnmnkaaGreatDoor
