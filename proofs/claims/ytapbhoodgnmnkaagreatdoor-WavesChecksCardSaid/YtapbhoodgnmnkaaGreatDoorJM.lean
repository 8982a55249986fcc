/- Laws and contracts. -/
import Derived.Test.YtapbhoodgnmnkaaGreatDoorJL
set_option linter.unusedVariables false
set_option linter.unusedSimpArgs false
set_option maxRecDepth 100000
set_option maxHeartbeats 32000000
namespace Go.Proofs.YtapbhoodgnmnkaaGreatDoor
open Go.Proofs.Tryz Go Go.RowKit
theorem z2t {P:Program}{n id:Nat}{lo:List Oper}{Q:Exit→Act→World→Prop}{a:Act}{w:World}{S:World→Prop}(k:Nat)(hm:P.follows .mixedOrders=true)(hQ:∀ a w,¬ Q .outgrown a w)(hB:splitB lo k=true)
  (h:wpAnyH P .any (lo.take k).toArray (TailQ P lo k Q) S k (Array.replicate k false) a w.drew):(Code.region id lo.toArray true).wpIn Fence.wide n P Q a w:=z7j hm hQ (z6m k hB h)
structure FrE (B g:Nat)(W0 W:World):Prop where
 o:W.os=W0.os
 t:W.tape=W0.tape
 u:W.output=W0.output
 size:W0.heap.size≤W.heap.size
 blk:∀ k,k<B→k≠g→W.heap[k]? = W0.heap[k]?
theorem FrE.refl (B g:Nat)(W:World):FrE B g W W:=⟨rfl,rfl,rfl,zq _,fun _ _ _=>rfl⟩
theorem FrE.below {B g:Nat}{W0 W W':World}(h:FrE B g W0 W)(hb:Below B W W'):FrE B g W0 W':=⟨hb.os.trans h.o,hb.tape.trans h.t,hb.output.trans h.u,Nat.le_trans h.size hb.size,fun k h1 h2=>(hb.block k h1).trans (h.blk k h1 h2)⟩
theorem FrE.set {B g:Nat}{W0 W:World}(h:FrE B g W0 W)(j:Nat)(x:Value):FrE B g W0 (W.setCell ⟨g,j,none⟩ x) :=
 ⟨h.o,h.t,h.u,by rw [World.size_setCell];exact h.size,fun k h1 h2=>(heap_setCell_other _ _ _ _ h2).trans (h.blk k h1 h2)⟩
theorem FrE.to {B0 B g:Nat}{W0 W:World}(h:FrE B g W0 W)(hg:B0≤g)(hB:B0≤B):Below B0 W0 W:=⟨h.o,h.t,h.u,h.size,fun k hk=>h.blk k (by omega) (by omega)⟩
theorem Grid.push {B:Nat}{v v':Value}{vs:List Value}{L:List (List Value)}{W W1:World}(h:Grid B v vs L W)(hg:W.grownBy W1 v.ownBlock)(ho:W1.ownsRow B 109 1 v' (L.length+1) (vs++[.slice none 0 0])):Grid B v' (vs++[.slice none 0 0]) (L++[[]]) W1:=by
 have hlen:=h.len
 have key:∀ (i:Nat) (u:Value),(vs++[.slice none 0 0])[i]? = some u→(i<vs.length∧vs[i]? = some u)∨(i=vs.length∧u=.slice none 0 0):=by
  intro i u hu
  rw [List.getElem?_append]at hu
  split at hu
  ·exact .inl ⟨‹_›,hu⟩
  ·have h1:=(zc hu)
   simp at h1
   have:i - vs.length=0:=by omega
   rw [this]at hu
   simp at hu
   exact .inr ⟨by omega,hu.symm⟩
 refine⟨by rw [List.length_append];exact ho,fun i u l hu hl=>?_,fun i j u u' b hu hu' hb hb'=>?_,by have:=h.base;have:=hg.size;omega⟩
 ·rcases key i u hu with ⟨h1,h2⟩ | ⟨h1,rfl⟩
  ·rw [List.getElem?_append_left (by omega)]at hl
   have hr:=h.row i u l h2 hl
   refine hr.kept hg ?_
   have:=z3l hr h.top (by decide)
   exact this
  ·rw [List.getElem?_append_right (by omega)]at hl
   rw [show i - L.length=0 by omega]at hl
   simp at hl
   subst hl
   exact World.ownsRow_nil _ _ _ _
 ·rcases key i u hu with ⟨h1,h2⟩ | ⟨h1,rfl⟩
  ·rcases key j u' hu' with ⟨h3,h4⟩ | ⟨h3,rfl⟩
   ·exact h.apart i j u u' b h2 h4 hb hb'
   ·simp [Value.ownBlock]at hb'
  ·simp [Value.ownBlock]at hb
theorem Grid.turnN {B:Nat}{v:Value}{vs:List Value}{L:List (List Value)}{W W':World}{row:Option Nat}(h:Grid B v vs L W)(hg:W.grownBy W' row)(hr:∀ r,row=some r→∃ o:Obj,W.heap[r]? = some o∧o.isCells=false):Grid B v vs L W':=by
 have key:∀ (e s n:Nat) (u:Value) (xs:List Value),W.ownsRow B e s u n xs→∀ k,u.ownBlock=some k→W'.heap[k]? = W.heap[k]?:=fun e s n u xs ho k hk=>hg.block k (ho.lt k hk).2 (fun e=>by
  obtain⟨o,h1,h2⟩:=z28 ho k hk
  obtain⟨o',h3,h4⟩:=hr k e.symm
  rw [h1]at h3;cases h3;rw [h2]at h4;cases h4)
 refine h.keep hg.size (key _ _ _ _ _ h.top) (fun i u k hu hk=>?_)
 have h1:=(zc hu)
 have h2:=h.len
 exact key _ _ _ _ _ (h.row i u _ hu (ze (by omega))) k hk
theorem Grid.shut {B B':Nat}{v:Value}{vs:List Value}{L:List (List Value)}{W W':World}(h:Grid B v vs L W)(hs:Shut B' W W'):Grid B v vs L W':=by
 refine h.keep (by rw [hs.size];exact zq _) (fun k hk=>hs.at (z28 h.top k hk)) (fun i u k hu hk=>?_)
 have h1:=(zc hu)
 have h2:=h.len
 exact hs.at (z28 (h.row i u _ hu (ze (by omega))) k hk)
attribute [local go_sem] Oper.semAt_some
theorem z4f (nv ev:Value)(ns:List ByteArray)(es:List (Int×Int))(w:World)(hE:EdgesOf w.heap.size ev es w)(hN:RowOf Value.string w.heap.size nv ns w)(hval:validG ns.length es=true)
  (hco:∀ n,n<ns.length→0≤gD (tarjan (sucs ns.length es)).co n∧gD (tarjan (sucs ns.length es)).co n<((tarjan (sucs ns.length es)).ct:Int)) (hcl:(tarjan (sucs ns.length es)).co.length=ns.length) (hct:(tarjan (sucs ns.length es)).ct≤ns.length) :
  Calls prog 62 #[.agg #[nv,ev]] w fun e w'=>∃ v1 v2,e=.returned (.tuple #[v1,v2])∧RowsOf w'.heap.size v1 (crun (tarjan (sucs ns.length es)).co (tarjan (sucs ns.length es)).ct ns.length).2 w' ∧
   RowsOf w'.heap.size v2 (couts (tarjan (sucs ns.length es)).co (crun (tarjan (sucs ns.length es)).co (tarjan (sucs ns.length es)).ct ns.length).1 (sucs ns.length es) (crun (tarjan (sucs ns.length es)).co (tarjan (sucs ns.length es)).ct ns.length).2.length ns.length) w'∧Below w.heap.size w w':=by
 obtain⟨hNn,hNe⟩:=z6f hval
 obtain⟨na,nc,rfl,_⟩:=z01 hN
 have hb1:Below w.heap.size w (w.alloc (.cells #[.slice na ns.length nc,ev] 32)):=(Below.refl _ _).alloc (zq _) _
 have HNS:=zh (zdm na nc ns.length _ es (w.alloc (.cells #[.slice na ns.length nc,ev] 32)) ((hE.below hb1 (zq _)).mono hb1.size) hval)
 have hE0:=hE
 obtain⟨ao,ec,rfl,_⟩:=hE
 have HB1:=zh hb1
 have HV:=zh hval
 have HCL0:=zh hcl
 clear hb1 hval hN hE0 hcl
 refine(callsIn_wide (n:=9)).1 ?_
 refine callsIn_of_wp_marks func62 rfl trivial ?_ rfl
 simp only [ntmps62,List.size_toArray,List.length_cons,List.length_nil,Nat.reduceAdd,Nat.reduceSub,Array.replicate_succ,Array.replicate_zero,List.push_toArray,List.append_toArray,List.nil_append,List.cons_append]
 gi_wp2_with fail
 refine⟨trivial,?_⟩
 refine(callsIn_wide.2 HNS.out).mono ?_
 rintro e w1 ⟨v1,vs1,rfl,hgr1,hb2⟩
 have hs1:=hb2.size
 simp only [World.size_alloc]at hs1
 have hr1:=hgr1.rows
 obtain⟨sa,sc,hv1⟩:=hgr1.shape
 rw [List.length_map,z08]at hv1
 subst hv1
 have hnum:=zg6 _ (sucs ns.length es) w1 hr1 (by rw [z08];omega) (fun x=>by have:=z50 (N:=ns.length) (es:=es) x;omega) z2c
 rw [z08]at hnum
 obtain⟨ct,hcte⟩:∃ ct,ct=(tarjan (sucs ns.length es)).ct:=⟨_,rfl⟩
 obtain⟨co,hcoe⟩:∃ co,co=(tarjan (sucs ns.length es)).co:=⟨_,rfl⟩
 rw [← hcte,← hcoe]at hnum
 rw [← hcte,← hcoe]at hco
 rw [← hcte]at hct
 have hcl2:=HCL0.out
 rw [← hcoe]at hcl2
 have HCL:=zh hcl2
 have HCTE:=zh hcte
 have HCOE:=zh hcoe
 clear hcte hcoe hcl2 HCL0
 have HCO:=zh hco
 have HW1:=zh (HB1.out.trans (hb2.mono (by simp)))
 have HR1:=zh hr1
 have HNUM:=zh hnum
 clear hco hgr1 hb2 hr1 hnum HNS
 gi_wp2_with fail
 refine⟨trivial,?_⟩
 refine(callsIn_wide.2 HNUM.out).mono ?_
 rintro e w2 ⟨gc,rfl,hgc,hic,hb3⟩
 have hs2:=hb3.size
 have HIC:=zh hic
 have HW2:=zh (HW1.out.trans (hb3.mono (by omega)))
 have HR2:=zh (HR1.out.below hb3 (zq _))
 have hgl:=zen hic
 clear hic hb3 HNUM
 have hrep:=z84 (w2.heap.size+1) 1 ct (-1) ((w2.alloc (.cells #[.slice (some ⟨gc,0,none⟩) ns.length ns.length] 109)).alloc (.cells #[.int .i64 (-1)] 3)) (by omega) (by
  have:=zn (w2.alloc (.cells #[.slice (some ⟨gc,0,none⟩) ns.length ns.length] 109)) (.cells #[.int .i64 (-1)] 3)
  rw [World.size_alloc]at this
  exact zw _ _ _ _ _ _ this) (by simp)
 have HREP:=zh hrep
 clear hrep
 gi_wp2_with fail
 refine⟨trivial,?_⟩
 refine(callsIn_wide.2 HREP.out).mono ?_
 rintro e w3 ⟨gp,rfl,hgp,hcp,hb4⟩
 have hs3:=hb4.size
 simp only [World.size_alloc]at hs3 hgp
 have h5:Boxed w3 w2.heap.size 109 (.slice (some ⟨gc,0,none⟩) ns.length ns.length):=(hb4.block _ (by simp;omega)).trans ((Boxed.new w2 _ _).alloc _)
 have hI3:Ints w3 gc co:=(hb4.block _ (by simp;omega)).trans ((Below.heap_alloc _ _ _ (by simp;omega)).trans ((Below.heap_alloc _ _ _ (by omega)).trans HIC.out))
 have hP3:Ints w3 gp (List.replicate ct (-1)):=by unfold Ints;rw [hcp];simp
 have hb23:Below w2.heap.size w2 w3:=(((Below.refl _ _).alloc (zq _) _).alloc (by simp) _).trans (hb4.mono (by simp;omega))
 have hW3:=HW2.out.trans (hb23.mono (by omega))
 have hR3:=(HR2.out.below (hb23.mono (by omega)) (zq _))
 have hpl:=zen hP3
 have hc53:=cellA (.cells #[.slice (some ⟨gp,0,none⟩) ct ct] 109) h5.cell
 clear hcp hb4 HREP hb23
 gi_wp2_with fail
 clear hc53
 obtain⟨W0,hW0⟩:∃ W0,W0=w3.alloc (.cells #[.slice (some ⟨gp,0,none⟩) ct ct] 109):=⟨_,rfl⟩
 have hz0:w3.heap.size<W0.heap.size:=by rw [hW0];simp
 have h70:Boxed W0 w3.heap.size 109 (.slice (some ⟨gp,0,none⟩) ct ct):=by rw [hW0];exact Boxed.new _ _ _
 have h50:Boxed W0 w2.heap.size 109 (.slice (some ⟨gc,0,none⟩) ns.length ns.length):=by rw [hW0];exact h5.alloc _
 have hI0:Ints W0 gc co:=by rw [hW0];exact(Below.heap_alloc _ _ _ (by omega)).trans hI3
 have hP0:Ints W0 gp (List.replicate ct (-1)):=by rw [hW0];exact(Below.heap_alloc _ _ _ hpl).trans hP3
 have hbb0:Below w3.heap.size w3 W0:=by rw [hW0];exact z0v _ _
 have HW0:=zh (hW3.trans (hbb0.mono (by omega)))
 have HR0:=zh (hR3.below (hbb0.mono (by omega)) (zq _))
 rw [← hW0]
 clear hW0 h5 hI3 hP3 hW3 hR3 hbb0
 have H70:=zh h70
 have H50:=zh h50
 have HI0:=zh hI0
 have HP0:=zh hP0
 clear h70 h50 hI0 hP0
 have hgpc:gp≠gc:=by omega
 refine z3a (fun j a' W=>∃ u9 u10 u11 u12 u13 u14 u15 u16 u17 u18 u19 u20 u21 u22 u23 u24 u25 u29 u30 u31 u32 u33 u34 u35 u36 u37 u38 u39 u40 u41 u42 u43 u44 u45 u46 u47 u48 u49 u50 u51 u52 u53 u54 u55 u56 u57 u58 u59 u60 u61 u62 u63 u64 u65 u66 u67 u68 u69 u70 u71 u72 u73 u74 u75 u76 u77 u78 u79 u80 u81 u82 u83 u84 u85 u86 u87 u88 u89 u90 u91 u92 u93 u94 u95 u96 u97 u98 u99 u100 u101 u102 u103 u104 u105:Value,∃ (k:Nat) (nv:Value) (vs:List Value),(j=ns.length - k∧k≤ns.length∧Grid W0.heap.size nv vs ((crun co ct k).2.map (·.map natC)) W∧Ints W gp (crun co ct k).1∧FrE W0.heap.size gp W0 W)∧a'={ tmps:=#[.agg #[.slice na ns.length nc,.slice ao es.length ec],.pointer (some ⟨w.heap.size,0,none⟩),.slice none 0 0,.slice none 0 0,.slice sa ns.length sc,.pointer (some ⟨w2.heap.size,0,none⟩),natC ct,.pointer (some ⟨w3.heap.size,0,none⟩),nv,u9,u10,u11,u12,u13,u14,u15,u16,u17,u18,u19,u20,u21,u22,u23,u24,u25,.slice (some ⟨gc,0,none⟩) ns.length ns.length,.int .i64 ns.length,.int .i64 k,u29,u30,u31,u32,u33,u34,u35,u36,u37,u38,u39,u40,u41,u42,u43,u44,u45,u46,u47,u48,u49,u50,u51,u52,u53,u54,u55,u56,u57,u58,u59,u60,u61,u62,u63,u64,u65,u66,u67,u68,u69,u70,u71,u72,u73,u74,u75,u76,u77,u78,u79,u80,u81,u82,u83,u84,u85,u86,u87,u88,u89,u90,u91,u92,u93,u94,u95,u96,u97,u98,u99,u100,u101,u102,u103,u104,u105],defers:=[] }) ns.length ?start ?round
 case start =>
  repeat apply Exists.intro
  refine⟨⟨Nat.sub_zero _ |>.symm,Nat.zero_le _,?_,?_,FrE.refl _ _ _⟩,rfl⟩
  ·exact⟨World.ownsRow_nil _ _ _ _,(fun i u l hu _=>by cases hu),(fun i j u u' b hu=>by cases hu),zq _⟩
  ·exact HP0.out
 case round =>
  intro j a' W h
  obtain⟨u9,h⟩:=h
  obtain⟨u10,h⟩:=h
  obtain⟨u11,h⟩:=h
  obtain⟨u12,h⟩:=h
  obtain⟨u13,h⟩:=h
  obtain⟨u14,h⟩:=h
  obtain⟨u15,h⟩:=h
  obtain⟨u16,h⟩:=h
  obtain⟨u17,h⟩:=h
  obtain⟨u18,h⟩:=h
  obtain⟨u19,h⟩:=h
  obtain⟨u20,h⟩:=h
  obtain⟨u21,h⟩:=h
  obtain⟨u22,h⟩:=h
  obtain⟨u23,h⟩:=h
  obtain⟨u24,h⟩:=h
  obtain⟨u25,h⟩:=h
  obtain⟨u29,h⟩:=h
  obtain⟨u30,h⟩:=h
  obtain⟨u31,h⟩:=h
  obtain⟨u32,h⟩:=h
  obtain⟨u33,h⟩:=h
  obtain⟨u34,h⟩:=h
  obtain⟨u35,h⟩:=h
  obtain⟨u36,h⟩:=h
  obtain⟨u37,h⟩:=h
  obtain⟨u38,h⟩:=h
  obtain⟨u39,h⟩:=h
  obtain⟨u40,h⟩:=h
  obtain⟨u41,h⟩:=h
  obtain⟨u42,h⟩:=h
  obtain⟨u43,h⟩:=h
  obtain⟨u44,h⟩:=h
  obtain⟨u45,h⟩:=h
  obtain⟨u46,h⟩:=h
  obtain⟨u47,h⟩:=h
  obtain⟨u48,h⟩:=h
  obtain⟨u49,h⟩:=h
  obtain⟨u50,h⟩:=h
  obtain⟨u51,h⟩:=h
  obtain⟨u52,h⟩:=h
  obtain⟨u53,h⟩:=h
  obtain⟨u54,h⟩:=h
  obtain⟨u55,h⟩:=h
  obtain⟨u56,h⟩:=h
  obtain⟨u57,h⟩:=h
  obtain⟨u58,h⟩:=h
  obtain⟨u59,h⟩:=h
  obtain⟨u60,h⟩:=h
  obtain⟨u61,h⟩:=h
  obtain⟨u62,h⟩:=h
  obtain⟨u63,h⟩:=h
  obtain⟨u64,h⟩:=h
  obtain⟨u65,h⟩:=h
  obtain⟨u66,h⟩:=h
  obtain⟨u67,h⟩:=h
  obtain⟨u68,h⟩:=h
  obtain⟨u69,h⟩:=h
  obtain⟨u70,h⟩:=h
  obtain⟨u71,h⟩:=h
  obtain⟨u72,h⟩:=h
  obtain⟨u73,h⟩:=h
  obtain⟨u74,h⟩:=h
  obtain⟨u75,h⟩:=h
  obtain⟨u76,h⟩:=h
  obtain⟨u77,h⟩:=h
  obtain⟨u78,h⟩:=h
  obtain⟨u79,h⟩:=h
  obtain⟨u80,h⟩:=h
  obtain⟨u81,h⟩:=h
  obtain⟨u82,h⟩:=h
  obtain⟨u83,h⟩:=h
  obtain⟨u84,h⟩:=h
  obtain⟨u85,h⟩:=h
  obtain⟨u86,h⟩:=h
  obtain⟨u87,h⟩:=h
  obtain⟨u88,h⟩:=h
  obtain⟨u89,h⟩:=h
  obtain⟨u90,h⟩:=h
  obtain⟨u91,h⟩:=h
  obtain⟨u92,h⟩:=h
  obtain⟨u93,h⟩:=h
  obtain⟨u94,h⟩:=h
  obtain⟨u95,h⟩:=h
  obtain⟨u96,h⟩:=h
  obtain⟨u97,h⟩:=h
  obtain⟨u98,h⟩:=h
  obtain⟨u99,h⟩:=h
  obtain⟨u100,h⟩:=h
  obtain⟨u101,h⟩:=h
  obtain⟨u102,h⟩:=h
  obtain⟨u103,h⟩:=h
  obtain⟨u104,h⟩:=h
  obtain⟨u105,h⟩:=h
  obtain⟨k,nv,vs,⟨hj,hk,hG,hP,hF⟩,rfl⟩:=h
  have hci:=z2e (N:=ns.length) HCO.out k hk
  have hsz:=hF.size
  have h5:Boxed W w2.heap.size 109 (.slice (some ⟨gc,0,none⟩) ns.length ns.length):=(hF.blk _ (by omega) (by omega)).trans H50.out
  have h7:Boxed W w3.heap.size 109 (.slice (some ⟨gp,0,none⟩) ct ct):=(hF.blk _ (by omega) (by omega)).trans H70.out
  have hI:Ints W gc co:=(hF.blk _ (by omega) (Ne.symm hgpc)).trans HI0.out
  have hc7:=h7.cell
  have hc5:=h5.cell
  obtain⟨nva,nvc,hnv⟩:=hG.shape
  rw [List.length_map]at hnv
  subst hnv
  by_cases hlt:k<ns.length
  ·obtain⟨hc0,hc1⟩:=HCO.out k hlt
   obtain⟨c,hcc⟩:∃ c:Nat,gD co k=(c:Int):=⟨(gD co k).toNat,by omega⟩
   have hcc0:(0:Int)≤(c:Int):=by omega
   have hcc1:(c:Int)<(ct:Int):=by omega
   have hck0:(0:Int)≤(k:Int):=by omega
   have hck1:(k:Int)<(ns.length:Int):=by omega
   have hcgk:W.cell? ⟨gc,k,none⟩=some (natC c):=by
    have:=hI.cell k _ (z0z (by rw [HCL.out];exact hlt))
    rw [hcc]at this
    exact this
   have hcp:W.cell? ⟨gp,c,none⟩=some (intC (gD (crun co ct k).1 c)):=hP.cell c _ (z0z (by rw [hci.len];omega))
   have HST:Hid (crun co ct (k+1)=crow (cput (crun co ct k) c) c k):=zh (by rw [z4h];unfold cstepN;rw [hcc];rfl)
   obtain⟨q1,q2,q3,q4,q5,q6,_⟩:=hci.put c (by omega)
   have hlr0:=hci.few
   have hfp:=frozen_of_row _ _ c _ _ hP
   generalize crun co ct k=st at *
   obtain⟨pl,nd⟩:=st
   simp only at *
   by_cases hneg:gD pl c<0
   ·have hput1:cput (pl,nd) c=(pl.set c (nd.length:Int),nd++[[]]):=if_pos hneg
    rw [hput1]at q1 q2 q3 q4 q5 q6
    obtain⟨pv,hpv⟩:∃ pv,pv=gD pl c:=⟨_,rfl⟩
    rw [← hpv]at hcp hneg
    clear hpv
    have hnd:decide (pv<0)=true:=decide_eq_true hneg
    have hG0:Grid W0.heap.size (.slice nva nd.length nvc) vs (nd.map (·.map natC)) (W.setCell ⟨gp,c,none⟩ (natC nd.length)):=hG.keep (by rw [World.size_setCell];exact zq _) (fun b hb=>heap_setCell_other _ _ _ _ (fun e=>by have e:b=gp:=e;have:=(hG.top.lt b hb).1;omega))
     (fun i u b hu hb=>heap_setCell_other _ _ _ _ (fun e=>by
      have e:b=gp:=e
      have h1:=(zc hu)
      have h2:=hG.len
      have:=((hG.row i u _ hu (ze (by omega))).lt b hb).1
      omega))
    have hG2:=(hG0.below (z0v _ (.cells #[.slice none 0 0] 109)))
    have hP2:Ints ((W.setCell ⟨gp,c,none⟩ (natC nd.length)).alloc (.cells #[.slice none 0 0] 109)) gp (pl.set c nd.length):=(Below.heap_alloc _ _ _ (by rw [World.size_setCell];omega)).trans (hP.set c nd.length)
    have hF2:FrE W0.heap.size gp W0 ((W.setCell ⟨gp,c,none⟩ (natC nd.length)).alloc (.cells #[.slice none 0 0] 109)):=(hF.set c _).below ((Below.refl _ _).alloc (by rw [World.size_setCell];exact hsz) _)
    have htp:=hG2.top
    rw [List.length_map]at htp
    obtain⟨i1,hi1',hy0,hy1,hy2⟩:=info_parts z4n
    have HTP:Hid (((W.setCell ⟨gp,c,none⟩ (natC nd.length)).alloc (.cells #[.slice none 0 0] 109)).ownsRow W0.heap.size 109 1 (.slice nva nd.length nvc) nd.length vs):=zh htp
    have hwz:(W.setCell ⟨gp,c,none⟩ (natC nd.length)).heap.size=W.heap.size:=by simp
    have HNW:Hid (∀ (j:Nat) (u:Value),[Value.slice none 0 0][j]? = some u→((W.setCell ⟨gp,c,none⟩ (natC nd.length)).alloc (.cells #[.slice none 0 0] 109)).cell? ((⟨W.heap.size,0,none⟩:Addr).add j)=some u):=zh (by
     have:=World.news_of_block (cs:=#[.slice none 0 0]) (t:=109) (fr:=(0,0)) (heap_alloc_new (W.setCell ⟨gp,c,none⟩ (natC nd.length)) (.cells #[.slice none 0 0] 109))
     rw [hwz]at this
     exact this)
    have HG2:=zh hG2
    have HP2:=zh hP2
    have HF2:=zh hF2
    clear hG hG0 hG2 hP hP2 hF hF2 htp hI h5 h7
    gi_wp2_with (gi_at_builtin;go_loud (refine wpListIn_append_own _ rfl _ _ 73 rfl W0.heap.size 109 i1 (.slice none 0 0) 1 24 underlying73 hi1' hy0 hy1 hy2 rfl (by decide) _ nd.length vs (by rfl) HTP.out ⟨W.heap.size,0,none⟩ 1 1 [.slice none 0 0] (by rfl) rfl HNW.out ?n3 ?n4 ?n5 ?n6 ?n7))
    case n3=>rfl
    case n4=>unfold maxLen;omega
    case n5=>omega
    case n6=>first | exact hsz | omega
    case n7 =>
     intro v' Wx ho hg hv
     clear hv
     obtain⟨gt,ctp,rfl,_,_,_⟩:=z1a ho (by omega)
     have hG1:=HG2.out.push hg (by rw [List.length_map];exact ho)
     have hbx0:Below W0.heap.size ((W.setCell ⟨gp,c,none⟩ (natC nd.length)).alloc (.cells #[.slice none 0 0] 109)) Wx:=(Below.refl _ _).grown hg (by rw [World.size_alloc,hwz];omega) (fun b hb=>(HTP.out.lt b hb).1)
     have hP1:Ints Wx gp (pl.set c nd.length):=(hbx0.block gp (by omega)).trans HP2.out
     have hF1:=HF2.out.below hbx0
     clear ho hg hbx0
     gi_wp2_with fail
     obtain⟨pl1,hpl1e⟩:∃ x,x=pl.set c (nd.length:Int):=⟨_,rfl⟩
     obtain⟨nd1,hnd1e⟩:∃ x,x=nd++[[]]:=⟨_,rfl⟩
     rw [← hpl1e,← hnd1e]at hput1
     have hll:pl.length=ct:=by simpa using q1
     have hii:gD pl1 c=((nd.length:Nat):Int):=by rw [hpl1e,zeh _ _ _ _ (by omega),if_pos rfl]
     have hl1:pl1.length=ct:=by rw [hpl1e];exact q1
     rw [← hpl1e]at hP1
     have hin:nd.length<nd1.length:=by rw [hnd1e];simp
     have hrow1:∀ i,(nd1.getD i []).length≤k:=by rw [hnd1e];exact q5
     have hnl:nd.length+1=nd1.length:=by rw [hnd1e];simp
     have hG1:Grid W0.heap.size (.slice (some ⟨gt,0,none⟩) nd1.length ctp) (vs++[.slice none 0 0]) (nd1.map (·.map natC)) Wx:=by rw [← hnl,hnd1e,List.map_append];exact hG1
     rw [hnl]
     obtain⟨i,hi⟩:∃ i,i=nd.length:=⟨_,rfl⟩
     rw [← hi]at hii hin
     obtain⟨vs1,hvs1⟩:∃ x,x=vs++[.slice none 0 0]:=⟨_,rfl⟩
     rw [← hvs1]at hG1
     clear hpl1e hnd1e hi hvs1 q1 q2 q3 q5 q6
     obtain⟨u,hu⟩:∃ u,vs1[i]? = some u:=⟨vs1[i]'(by have:=hG1.len;rw [List.length_map]at this;omega),by simp⟩
     have hl:(nd1.map (·.map natC))[i]? = some ((nd1.getD i []).map natC):=by rw [List.getElem?_map,zg,ze hin];rfl
     obtain⟨rw_,hrw⟩:∃ r,r=nd1.getD i []:=⟨_,rfl⟩
     rw [← hrw]at hl
     have hlr:rw_.length≤1000000:=by have:=hrow1 i;rw [hrw];omega
     have HRW:=zh hrw
     clear hrw hrow1
     have hown:=hG1.row i u _ hu hl
     rw [List.length_map]at hown
     have htop:=hG1.top
     rw [List.length_map]at htop
     have hcu:Wx.cell? ⟨gt,i,none⟩=some u:=z0o htop i u hu
     have hfu:Wx.frozen? ⟨gt,i,none⟩=false:=htop.frozenAt i
     have hgt:=(htop.lt gt rfl)
     have hszx:=hF1.size
     have h7x:Boxed Wx w3.heap.size 109 (.slice (some ⟨gp,0,none⟩) ct ct):=(hF1.blk _ (by omega) (by omega)).trans H70.out
     have hcpx:Wx.cell? ⟨gp,c,none⟩=some (natC i):=by have:=hP1.cell c _ (z0z (by rw [hl1];omega));rw [hii]at this;exact this
     have hne:u.ownBlock≠some gt:=fun e=>by
      rcases z3l hown htop (by decide)with h | h
      ·rw [h]at e;cases e
      ·exact h (by rw [e];rfl)
     have hob:∀ b,u.ownBlock=some b→W0.heap.size≤b:=fun b hb=>(hown.lt b hb).1
     obtain⟨i0,hi0',hz0,hz1,hz2⟩:=info_parts z1l
     have HN:Hid (∀ W1,((Wx.alloc (.cells #[natC k] 3)).drew).grownBy W1 u.ownBlock→(W1.cell? ⟨w3.heap.size,0,none⟩=some (.slice (some ⟨gp,0,none⟩) ct ct)∧W1.cell? ⟨gp,c,none⟩=some (natC i)∧W1.cell? ⟨gt,i,none⟩=some u)∧W1.frozen? ⟨gt,i,none⟩=false):=zh (fun W1 hg=>by
      have a1:some w3.heap.size≠u.ownBlock:=fun e=>by have:=hob _ e.symm;omega
      have a2:some gp≠u.ownBlock:=fun e=>by have:=hob _ e.symm;omega
      have a3:some gt≠u.ownBlock:=fun e=>hne e.symm
      refine⟨⟨?_,?_,?_⟩,?_⟩
      ·rw [hg.cell_far _ (by show w3.heap.size<_;simp;omega) a1]
       exact cellA _ h7x.cell
      ·rw [hg.cell_far _ (by show gp<_;simp;omega) a2]
       exact cellA _ hcpx
      ·rw [hg.cell_far _ (by show gt<_;simp;omega) a3]
       exact cellA _ hcu
      ·rw [hg.frozen_far _ (by show gt<_;simp;omega) a3]
       exact frozA _ hcu hfu)
     have HOWN:Hid (((Wx.alloc (.cells #[natC k] 3)).drew).ownsRow W0.heap.size 3 1 u rw_.length (rw_.map natC)):=zh ((hown.alloc _).drew)
     have hSx:HeldR ⟨w3.heap.size,0,none⟩ ⟨gp,c,none⟩ ⟨gt,i,none⟩ (.slice (some ⟨gp,0,none⟩) ct ct) (natC i) u Wx.drew:=⟨h7x.cell,hcpx,hcu⟩
     have hk1:(i:Int)<(nd1.length:Int):=by omega
     have hk0:(0:Int)≤(i:Int):=by omega
     have HG1:=zh hG1
     have HP1:=zh hP1
     have HF1:=zh hF1
     have HU:=zh hu
     have HL:=zh hl
     have HOB:=zh hob
     have HNE:=zh hne
     clear hG1 hP1 hF1 hu hl hown htop hob hne h7x hcpx hcu hfu
     refine z2t (S:=HeldR ⟨w3.heap.size,0,none⟩ ⟨gp,c,none⟩ ⟨gt,i,none⟩ (.slice (some ⟨gp,0,none⟩) ct ct) (natC i) u) 15 (by kernel_rfl) (fun _ _ h=>by obtain⟨_,_,h,_⟩:=h;cases h) (by kernel_rfl) ?_
     simp only [List.take_succ_cons,List.take_zero]
     refine zt 0 _ rfl ?_;simp only [zl1];refine zt 1 _ rfl ?_;simp only [zl1];refine zt 2 _ rfl ?_;simp only [zl1];refine zt 3 _ rfl ?_;simp only [zl1];refine zt 4 _ rfl ?_;simp only [zl1];refine zt 5 _ rfl ?_;simp only [zl1];refine zt 6 _ rfl ?_;simp only [zl1];refine zt 7 _ rfl ?_;simp only [zl1];refine zt 8 _ rfl ?_;simp only [zl1];refine zt 9 _ rfl ?_;simp only [zl1];refine zt 10 _ rfl ?_;simp only [zl1]
     refine zt 11 _ rfl ?_;simp only [zl1];refine zt 12 _ rfl ?_;simp only [zl1]
     refine zr 13 rfl fun K hK=>?_
     go_simp
     refine hK.out _ _ ⟨cellA _ hSx.1,cellA _ hSx.2.1,cellA _ hSx.2.2⟩ (fun _=>?_)
     clear hK K
     (try simp only [zl1])
     refine zr 14 rfl fun K hK=>?_
     refine step_append_lies _ (by rfl) _ _ _ (by rfl) W0.heap.size 3 i0 (.int .i64 0) 1 8 underlying109 hi0' hz0 hz1 hz2 rfl (by decide) u _ _ (by rfl) HOWN.out ⟨Wx.heap.size,0,none⟩ 1 1 [natC k] (by rfl) (by rfl) (World.news_of_block (cs:=#[natC k]) (t:=3) (fr:=(0,0)) (heap_alloc_new Wx _)) (by simp [Value.oneCell']) (by decide) (by unfold maxLen;omega) (by omega) (by show W0.heap.size≤(Wx.alloc _).heap.size;rw [World.size_alloc];omega) (Wx.heap.size+1) (by simp) ?_
     intro gg cap w4 hown4 hg4 hat4 hlt4
     obtain⟨hS4,hfz4⟩:=HN.out _ hg4
     refine hK.out _ _ hS4 (fun _=>?_)
     have hct4:=hS4.2.2
     clear hK K hS4
     (try simp only [zl1])
     refine wpAnyH_done (by kernel_rfl) ?_ _
     show wpList _ _ _ _ _ _
     simp only [List.drop_succ_cons,List.drop_zero]
     go_wp2_with fail
     gi_wp2_with fail
     have g1:Wx.grownBy w4 u.ownBlock:=(grownD (World.grownBy_alloc Wx _ _)).trans hg4
     have hbx:Below W0.heap.size Wx w4:=((Below.refl _ _).alloc hszx (.cells #[natC k] 3)).drew.grown hg4 (by show W0.heap.size≤(Wx.alloc _).heap.size;rw [World.size_alloc];omega) (fun b hb=>HOB.out b hb)
     have hfin:=HG1.out.put i u (.slice (some ⟨gg,0,none⟩) (rw_.length+1) cap) _ (rw_.map natC++[natC k]) (by rw [List.length_map]) HU.out HL.out g1 (by rw [List.length_append,List.length_map,List.length_singleton];exact hown4) (by
      rcases hat4 with h | h
      ·exact .inl (by rw [h];rfl)
      ·refine .inr fun b hb=>?_
       have e:gg=b:=by simpa [Value.ownBlock]using hb
       omega)
     have hmap:(nd1.map (·.map natC)).set i (rw_.map natC++[natC k])=(crun co ct (k+1)).2.map (·.map natC):=by
      rw [HST.out,hput1,HRW.out]
      show _=(nd1.set (gD pl1 c).toNat (nd1.getD (gD pl1 c).toNat []++[k])).map (·.map natC)
      rw [hii,Int.toNat_natCast,List.map_set,List.map_append]
      rfl
     have hpl1:(crun co ct (k+1)).1=pl1:=by rw [HST.out,hput1];rfl
     refine⟨ns.length - (k+1),by omega,?_⟩
     repeat apply Exists.intro
     refine⟨⟨rfl,hlt,?_,?_,?_⟩,?_⟩
     rotate_left 3
     ·repeat' (first | exact rfl | apply And.intro)
     rotate_left
     ·rw [← hmap]
      exact hfin
     ·rw [hpl1]
      exact(heap_setCell_other _ _ _ _ (fun e=>by have e:gp=gt:=e;omega)).trans ((hbx.block gp (by omega)).trans HP1.out)
     ·exact HF1.out.below (hbx.setCell (by exact hgt.1) _)
   ·have hput1:cput (pl,nd) c=(pl,nd):=if_neg hneg
    rw [hput1]at q1 q2 q3 q4 q5 q6
    obtain⟨i,hii⟩:∃ i:Nat,gD pl c=(i:Int):=⟨(gD pl c).toNat,by omega⟩
    have hin:i<nd.length:=by have:=q3 c;simp only at this;omega
    have hl1:pl.length=ct:=q1
    have hrow1:∀ i,(nd.getD i []).length≤k:=q5
    rw [hii]at hcp
    have hnd:decide ((i:Int)<0)=false:=decide_eq_false (by omega)
    have hP1:=hP
    have hF1:=hF
    have hG1:=hG
    have htop0:=hG.top
    rw [List.length_map]at htop0
    obtain⟨gt,ctp,hv,_,_,_⟩:=z1a htop0 (by omega)
    rw [hv]at hG1
    cases hv
    clear hG hP hF htop0 q1 q2 q3 q5 q6 hI h5 h7
    gi_wp2_with fail
    obtain⟨u,hu⟩:∃ u,vs[i]? = some u:=⟨vs[i]'(by have:=hG1.len;rw [List.length_map]at this;omega),by simp⟩
    have hl:(nd.map (·.map natC))[i]? = some ((nd.getD i []).map natC):=by rw [List.getElem?_map,zg,ze hin];rfl
    obtain⟨rw_,hrw⟩:∃ r,r=nd.getD i []:=⟨_,rfl⟩
    rw [← hrw]at hl
    have hlr:rw_.length≤1000000:=by have:=hrow1 i;rw [hrw];omega
    have HRW:=zh hrw
    clear hrw hrow1
    have hown:=hG1.row i u _ hu hl
    rw [List.length_map]at hown
    have htop:=hG1.top
    rw [List.length_map]at htop
    have hcu:W.cell? ⟨gt,i,none⟩=some u:=z0o htop i u hu
    have hfu:W.frozen? ⟨gt,i,none⟩=false:=htop.frozenAt i
    have hgt:=(htop.lt gt rfl)
    have hszx:=hF1.size
    have h7x:Boxed W w3.heap.size 109 (.slice (some ⟨gp,0,none⟩) ct ct):=(hF1.blk _ (by omega) (by omega)).trans H70.out
    have hcpx:W.cell? ⟨gp,c,none⟩=some (natC i):=by have:=hP1.cell c _ (z0z (by rw [hl1];omega));rw [hii]at this;exact this
    have hne:u.ownBlock≠some gt:=fun e=>by
     rcases z3l hown htop (by decide)with h | h
     ·rw [h]at e;cases e
     ·exact h (by rw [e];rfl)
    have hob:∀ b,u.ownBlock=some b→W0.heap.size≤b:=fun b hb=>(hown.lt b hb).1
    obtain⟨i0,hi0',hz0,hz1,hz2⟩:=info_parts z1l
    have HN:Hid (∀ W1,((W.alloc (.cells #[natC k] 3)).drew).grownBy W1 u.ownBlock→(W1.cell? ⟨w3.heap.size,0,none⟩=some (.slice (some ⟨gp,0,none⟩) ct ct)∧W1.cell? ⟨gp,c,none⟩=some (natC i)∧W1.cell? ⟨gt,i,none⟩=some u)∧W1.frozen? ⟨gt,i,none⟩=false):=zh (fun W1 hg=>by
     have a1:some w3.heap.size≠u.ownBlock:=fun e=>by have:=hob _ e.symm;omega
     have a2:some gp≠u.ownBlock:=fun e=>by have:=hob _ e.symm;omega
     have a3:some gt≠u.ownBlock:=fun e=>hne e.symm
     refine⟨⟨?_,?_,?_⟩,?_⟩
     ·rw [hg.cell_far _ (by show w3.heap.size<_;simp;omega) a1]
      exact cellA _ h7x.cell
     ·rw [hg.cell_far _ (by show gp<_;simp;omega) a2]
      exact cellA _ hcpx
     ·rw [hg.cell_far _ (by show gt<_;simp;omega) a3]
      exact cellA _ hcu
     ·rw [hg.frozen_far _ (by show gt<_;simp;omega) a3]
      exact frozA _ hcu hfu)
    have HOWN:Hid (((W.alloc (.cells #[natC k] 3)).drew).ownsRow W0.heap.size 3 1 u rw_.length (rw_.map natC)):=zh ((hown.alloc _).drew)
    have hSx:HeldR ⟨w3.heap.size,0,none⟩ ⟨gp,c,none⟩ ⟨gt,i,none⟩ (.slice (some ⟨gp,0,none⟩) ct ct) (natC i) u W.drew:=⟨h7x.cell,hcpx,hcu⟩
    have hk1:(i:Int)<(nd.length:Int):=by omega
    have hk0:(0:Int)≤(i:Int):=by omega
    have HG1:=zh hG1
    have HP1:=zh hP1
    have HF1:=zh hF1
    have HU:=zh hu
    have HL:=zh hl
    have HOB:=zh hob
    have HNE:=zh hne
    clear hG1 hP1 hF1 hu hl hown htop hob hne h7x hcpx hcu hfu
    refine z2t (S:=HeldR ⟨w3.heap.size,0,none⟩ ⟨gp,c,none⟩ ⟨gt,i,none⟩ (.slice (some ⟨gp,0,none⟩) ct ct) (natC i) u) 15 (by kernel_rfl) (fun _ _ h=>by obtain⟨_,_,h,_⟩:=h;cases h) (by kernel_rfl) ?_
    simp only [List.take_succ_cons,List.take_zero]
    refine zt 0 _ rfl ?_;simp only [zl1];refine zt 1 _ rfl ?_;simp only [zl1];refine zt 2 _ rfl ?_;simp only [zl1];refine zt 3 _ rfl ?_;simp only [zl1];refine zt 4 _ rfl ?_;simp only [zl1];refine zt 5 _ rfl ?_;simp only [zl1];refine zt 6 _ rfl ?_;simp only [zl1];refine zt 7 _ rfl ?_;simp only [zl1];refine zt 8 _ rfl ?_;simp only [zl1];refine zt 9 _ rfl ?_;simp only [zl1];refine zt 10 _ rfl ?_;simp only [zl1]
    refine zt 11 _ rfl ?_;simp only [zl1];refine zt 12 _ rfl ?_;simp only [zl1]
    refine zr 13 rfl fun K hK=>?_
    go_simp
    refine hK.out _ _ ⟨cellA _ hSx.1,cellA _ hSx.2.1,cellA _ hSx.2.2⟩ (fun _=>?_)
    clear hK K
    (try simp only [zl1])
    refine zr 14 rfl fun K hK=>?_
    refine step_append_lies _ (by rfl) _ _ _ (by rfl) W0.heap.size 3 i0 (.int .i64 0) 1 8 underlying109 hi0' hz0 hz1 hz2 rfl (by decide) u _ _ (by rfl) HOWN.out ⟨W.heap.size,0,none⟩ 1 1 [natC k] (by rfl) (by rfl) (World.news_of_block (cs:=#[natC k]) (t:=3) (fr:=(0,0)) (heap_alloc_new W _)) (by simp [Value.oneCell']) (by decide) (by unfold maxLen;omega) (by omega) (by show W0.heap.size≤(W.alloc _).heap.size;rw [World.size_alloc];omega) (W.heap.size+1) (by simp) ?_
    intro gg cap w4 hown4 hg4 hat4 hlt4
    obtain⟨hS4,hfz4⟩:=HN.out _ hg4
    refine hK.out _ _ hS4 (fun _=>?_)
    have hct4:=hS4.2.2
    clear hK K hS4
    (try simp only [zl1])
    refine wpAnyH_done (by kernel_rfl) ?_ _
    show wpList _ _ _ _ _ _
    simp only [List.drop_succ_cons,List.drop_zero]
    go_wp2_with fail
    gi_wp2_with fail
    have g1:W.grownBy w4 u.ownBlock:=(grownD (World.grownBy_alloc W _ _)).trans hg4
    have hbx:Below W0.heap.size W w4:=((Below.refl _ _).alloc hszx (.cells #[natC k] 3)).drew.grown hg4 (by show W0.heap.size≤(W.alloc _).heap.size;rw [World.size_alloc];omega) (fun b hb=>HOB.out b hb)
    have hfin:=HG1.out.put i u (.slice (some ⟨gg,0,none⟩) (rw_.length+1) cap) _ (rw_.map natC++[natC k]) (by rw [List.length_map]) HU.out HL.out g1 (by rw [List.length_append,List.length_map,List.length_singleton];exact hown4) (by
     rcases hat4 with h | h
     ·exact .inl (by rw [h];rfl)
     ·refine .inr fun b hb=>?_
      have e:gg=b:=by simpa [Value.ownBlock]using hb
      omega)
    have hmap:(nd.map (·.map natC)).set i (rw_.map natC++[natC k])=(crun co ct (k+1)).2.map (·.map natC):=by
     rw [HST.out,hput1,HRW.out]
     show _=(nd.set (gD pl c).toNat (nd.getD (gD pl c).toNat []++[k])).map (·.map natC)
     rw [hii,Int.toNat_natCast,List.map_set,List.map_append]
     rfl
    have hpl1:(crun co ct (k+1)).1=pl:=by rw [HST.out,hput1];rfl
    refine⟨ns.length - (k+1),by omega,?_⟩
    repeat apply Exists.intro
    refine⟨⟨rfl,hlt,?_,?_,?_⟩,?_⟩
    rotate_left 3
    ·repeat' (first | exact rfl | apply And.intro)
    rotate_left
    ·rw [← hmap]
     exact hfin
    ·rw [hpl1]
     exact(heap_setCell_other _ _ _ _ (fun e=>by have e:gp=gt:=e;omega)).trans ((hbx.block gp (by omega)).trans HP1.out)
    ·exact HF1.out.below (hbx.setCell (by exact hgt.1) _)
  ·have hkk:k=ns.length:=by omega
   subst hkk
   have hfew:=hci.few
   have HCI:=zh hci
   obtain⟨pl,hple⟩:∃ pl,pl=(crun co ct ns.length).1:=⟨_,rfl⟩
   obtain⟨nd,hnde⟩:∃ nd,nd=(crun co ct ns.length).2:=⟨_,rfl⟩
   rw [← hple]at hP
   rw [← hnde]at hG hfew ⊢
   have HPL:=zh hple
   have HND:=zh hnde
   have HPF:Hid (pl.length=ct∧∀ a,a<ns.length→∃ i:Nat,gD pl (gD co a).toNat=(i:Int)∧i<nd.length):=zh ⟨by rw [hple];exact hci.len,fun a ha=>⟨(gD pl (gD co a).toNat).toNat,by
    have h1:=hci.old a ha
    rw [← hple]at h1
    omega,by
    have h1:=hci.old a ha
    have h2:=hci.hi (gD co a).toNat
    rw [← hple]at h1 h2
    rw [← hnde]at h2
    omega⟩⟩
   have hmk:=zbl nd.length (by omega)
   have hc51:=cellA (.cells #[.slice (some ⟨W.heap.size,0,none⟩) nd.length nd.length] 111) (cellA (.cells (Array.replicate nd.length (.slice none 0 0)) 109) hc5)
   have HG:=zh hG
   have HP:=zh hP
   have HF:=zh hF
   have HI:=zh hI
   have H5:=zh h5
   have H7:=zh h7
   clear hci hple hnde hG hP hF hI h5 h7
   gi_wp2_with fail
   clear hmk hc51
   have hz1:(W.alloc (.cells (Array.replicate nd.length (.slice none 0 0)) 109)).heap.size=W.heap.size+1:=by simp
   have hG2:Grid W.heap.size (.slice (some ⟨W.heap.size,0,none⟩) nd.length nd.length) (List.replicate nd.length (.slice none 0 0)) (List.replicate nd.length []) ((W.alloc (.cells (Array.replicate nd.length (.slice none 0 0)) 109)).alloc (.cells #[(.slice (some ⟨W.heap.size,0,none⟩) nd.length nd.length)] 111)):=by
    have h1:=zf4 W.heap.size 109 nd.length (List.replicate nd.length (.slice none 0 0)) W (zq _) (by unfold maxLen;omega) (by simp)
    have h2:(W.alloc (.cells (Array.replicate nd.length (.slice none 0 0)) 109)).ownsRow W.heap.size 109 1 (.slice (some ⟨W.heap.size,0,none⟩) nd.length nd.length) nd.length (List.replicate nd.length (.slice none 0 0)):=by simpa using h1
    exact(Grid.made W.heap.size nd.length W (zq _) (by unfold maxLen;omega) _ _ h2 (by rw [hz1];omega)).below (z0v _ _)
   have hB2:Below W.heap.size W ((W.alloc (.cells (Array.replicate nd.length (.slice none 0 0)) 109)).alloc (.cells #[(.slice (some ⟨W.heap.size,0,none⟩) nd.length nd.length)] 111)):=((Below.refl _ _).alloc (zq _) _).alloc (by rw [hz1];omega) _
   have hX2:Boxed ((W.alloc (.cells (Array.replicate nd.length (.slice none 0 0)) 109)).alloc (.cells #[(.slice (some ⟨W.heap.size,0,none⟩) nd.length nd.length)] 111)) (W.heap.size+1) 111 (.slice (some ⟨W.heap.size,0,none⟩) nd.length nd.length):=by
    have:=Boxed.new (W.alloc (.cells (Array.replicate nd.length (.slice none 0 0)) 109)) 111 (.slice (some ⟨W.heap.size,0,none⟩) nd.length nd.length)
    rwa [hz1]at this
   have hs2':((W.alloc (.cells (Array.replicate nd.length (.slice none 0 0)) 109)).alloc (.cells #[(.slice (some ⟨W.heap.size,0,none⟩) nd.length nd.length)] 111)).heap.size=W.heap.size+2:=by simp
   generalize (W.alloc (.cells (Array.replicate nd.length (.slice none 0 0)) 109)).alloc (.cells #[(.slice (some ⟨W.heap.size,0,none⟩) nd.length nd.length)] 111)=Wm at *
   clear hz1
   have hszW:W0.heap.size≤W.heap.size:=HF.out.size
   have hgt0:=HG.out.base
   have HBW:Hid (Below w.heap.size w W):=zh (HW0.out.trans (HF.out.to (by omega) (by omega)))
   have HRW:Hid (RowsOf w1.heap.size (.slice sa ns.length sc) (sucs ns.length es) W):=zh (HR0.out.below (HF.out.to (B0:=w1.heap.size) (by omega) (by omega)) (zq _))
   refine z3a (fun j a' Wr=>∃ u9 u10 u12 u13 u14 u15 u16 u17 u18 u19 u20 u21 u22 u23 u24 u25 u26 u27 u28 u29 u30 u31 u32 u33 u34 u35 u36 u37 u38 u39 u40 u41 u42 u43 u44 u45 u46 u47 u48 u49 u50 u51 u52 u53 u54 u55 u56 u57 u58 u59 u60 u61 u62 u63 u64 u65 u69 u70 u71 u72 u73 u74 u75 u76 u77 u78 u79 u80 u81 u82 u83 u84 u85 u86 u87 u88 u89 u90 u91 u92 u93 u94 u95 u96 u97 u98 u99 u100 u101 u102 u103 u104 u105:Value,∃ (ds:List Deferred) (k:Nat) (vs2:List Value),(j=ns.length - k∧k≤ns.length∧Grid W.heap.size (.slice (some ⟨W.heap.size,0,none⟩) nd.length nd.length) vs2 ((couts co pl (sucs ns.length es) nd.length k).map (·.map natC)) Wr∧Boxed Wr (W.heap.size+1) 111 (.slice (some ⟨W.heap.size,0,none⟩) nd.length nd.length)∧Below W.heap.size W Wr∧Marks W.heap.size ds Wr∧W.heap.size+2≤Wr.heap.size)∧a'={ tmps:=#[.agg #[.slice na ns.length nc,.slice ao es.length ec],.pointer (some ⟨w.heap.size,0,none⟩),.slice none 0 0,.slice none 0 0,.slice sa ns.length sc,.pointer (some ⟨w2.heap.size,0,none⟩),natC ct,.pointer (some ⟨w3.heap.size,0,none⟩),.slice nva nd.length nvc,u9,u10,.pointer (some ⟨W.heap.size+1,0,none⟩),u12,u13,u14,u15,u16,u17,u18,u19,u20,u21,u22,u23,u24,u25,u26,u27,u28,u29,u30,u31,u32,u33,u34,u35,u36,u37,u38,u39,u40,u41,u42,u43,u44,u45,u46,u47,u48,u49,u50,u51,u52,u53,u54,u55,u56,u57,u58,u59,u60,u61,u62,u63,u64,u65,.slice (some ⟨gc,0,none⟩) ns.length ns.length,.int .i64 ns.length,.int .i64 k,u69,u70,u71,u72,u73,u74,u75,u76,u77,u78,u79,u80,u81,u82,u83,u84,u85,u86,u87,u88,u89,u90,u91,u92,u93,u94,u95,u96,u97,u98,u99,u100,u101,u102,u103,u104,u105],defers:=ds }) ns.length ?start2 ?round2
   case start2 =>
    have hmk:Marks W.heap.size [] Wm:=trivial
    repeat apply Exists.intro
    refine⟨⟨Nat.sub_zero _ |>.symm,Nat.zero_le _,?_,hX2,hB2,hmk,by omega⟩,rfl⟩
    have:(couts co pl (sucs ns.length es) nd.length 0).map (·.map natC)=List.replicate nd.length []:=by simp [couts]
    rw [this]
    exact hG2
   case round2 =>
    clear hG2 hB2 hX2
    intro j a' Wr h
    obtain⟨u9,h⟩:=h
    obtain⟨u10,h⟩:=h
    obtain⟨u12,h⟩:=h
    obtain⟨u13,h⟩:=h
    obtain⟨u14,h⟩:=h
    obtain⟨u15,h⟩:=h
    obtain⟨u16,h⟩:=h
    obtain⟨u17,h⟩:=h
    obtain⟨u18,h⟩:=h
    obtain⟨u19,h⟩:=h
    obtain⟨u20,h⟩:=h
    obtain⟨u21,h⟩:=h
    obtain⟨u22,h⟩:=h
    obtain⟨u23,h⟩:=h
    obtain⟨u24,h⟩:=h
    obtain⟨u25,h⟩:=h
    obtain⟨u26,h⟩:=h
    obtain⟨u27,h⟩:=h
    obtain⟨u28,h⟩:=h
    obtain⟨u29,h⟩:=h
    obtain⟨u30,h⟩:=h
    obtain⟨u31,h⟩:=h
    obtain⟨u32,h⟩:=h
    obtain⟨u33,h⟩:=h
    obtain⟨u34,h⟩:=h
    obtain⟨u35,h⟩:=h
    obtain⟨u36,h⟩:=h
    obtain⟨u37,h⟩:=h
    obtain⟨u38,h⟩:=h
    obtain⟨u39,h⟩:=h
    obtain⟨u40,h⟩:=h
    obtain⟨u41,h⟩:=h
    obtain⟨u42,h⟩:=h
    obtain⟨u43,h⟩:=h
    obtain⟨u44,h⟩:=h
    obtain⟨u45,h⟩:=h
    obtain⟨u46,h⟩:=h
    obtain⟨u47,h⟩:=h
    obtain⟨u48,h⟩:=h
    obtain⟨u49,h⟩:=h
    obtain⟨u50,h⟩:=h
    obtain⟨u51,h⟩:=h
    obtain⟨u52,h⟩:=h
    obtain⟨u53,h⟩:=h
    obtain⟨u54,h⟩:=h
    obtain⟨u55,h⟩:=h
    obtain⟨u56,h⟩:=h
    obtain⟨u57,h⟩:=h
    obtain⟨u58,h⟩:=h
    obtain⟨u59,h⟩:=h
    obtain⟨u60,h⟩:=h
    obtain⟨u61,h⟩:=h
    obtain⟨u62,h⟩:=h
    obtain⟨u63,h⟩:=h
    obtain⟨u64,h⟩:=h
    obtain⟨u65,h⟩:=h
    obtain⟨u69,h⟩:=h
    obtain⟨u70,h⟩:=h
    obtain⟨u71,h⟩:=h
    obtain⟨u72,h⟩:=h
    obtain⟨u73,h⟩:=h
    obtain⟨u74,h⟩:=h
    obtain⟨u75,h⟩:=h
    obtain⟨u76,h⟩:=h
    obtain⟨u77,h⟩:=h
    obtain⟨u78,h⟩:=h
    obtain⟨u79,h⟩:=h
    obtain⟨u80,h⟩:=h
    obtain⟨u81,h⟩:=h
    obtain⟨u82,h⟩:=h
    obtain⟨u83,h⟩:=h
    obtain⟨u84,h⟩:=h
    obtain⟨u85,h⟩:=h
    obtain⟨u86,h⟩:=h
    obtain⟨u87,h⟩:=h
    obtain⟨u88,h⟩:=h
    obtain⟨u89,h⟩:=h
    obtain⟨u90,h⟩:=h
    obtain⟨u91,h⟩:=h
    obtain⟨u92,h⟩:=h
    obtain⟨u93,h⟩:=h
    obtain⟨u94,h⟩:=h
    obtain⟨u95,h⟩:=h
    obtain⟨u96,h⟩:=h
    obtain⟨u97,h⟩:=h
    obtain⟨u98,h⟩:=h
    obtain⟨u99,h⟩:=h
    obtain⟨u100,h⟩:=h
    obtain⟨u101,h⟩:=h
    obtain⟨u102,h⟩:=h
    obtain⟨u103,h⟩:=h
    obtain⟨u104,h⟩:=h
    obtain⟨u105,h⟩:=h
    obtain⟨ds,k,vs2,⟨hj,hk,hG2,hX,hB,hM,hsr⟩,rfl⟩:=h
    have h5r:Boxed Wr w2.heap.size 109 (.slice (some ⟨gc,0,none⟩) ns.length ns.length):=(hB.block _ (by omega)).trans H5.out
    have hIr:Ints Wr gc co:=(hB.block _ (by omega)).trans HI.out
    have hc5r:=h5r.cell
    have hcX:=hX.cell
    by_cases hlt:k<ns.length
    ·obtain⟨hc0,hc1⟩:=HCO.out k hlt
     obtain⟨c,hcc⟩:∃ c:Nat,gD co k=(c:Int):=⟨(gD co k).toNat,by omega⟩
     have hck0:(0:Int)≤(k:Int):=by omega
     have hck1:(k:Int)<(ns.length:Int):=by omega
     have hcgk:Wr.cell? ⟨gc,k,none⟩=some (natC c):=by
      have:=hIr.cell k _ (z0z (by rw [HCL.out];exact hlt))
      rw [hcc]at this
      exact this
     have HG2:=zh hG2
     have HX:=zh hX
     have HB:=zh hB
     have HM:=zh hM
     have HCC:=zh hcc
     have HJ:=zh hj
     clear hG2 hX hB hM h5r hIr hcc hj
     gi_wp2_with fail
     refine⟨trivial,?_⟩
     refine(of_in 8 _ (k:Int) (0:Int) _ rfl).mono ?_
     rintro e w' ⟨rfl,rfl⟩
     gi_wp2_with fail
     obtain⟨Wl,hWl⟩:∃ Wl,Wl=((((Wr.alloc (.cells #[.int .i64 (c:Int)] 3)).alloc (.cells #[.slice sa ns.length sc] 111)).alloc (.cells #[.int .i64 (k:Int)] 3)).alloc (.cells #[.int .i64 0] 3)):=⟨_,rfl⟩
     have hsl:Wr.heap.size+3<Wl.heap.size:=by rw [hWl];simp
     have hbl:Below Wr.heap.size Wr Wl:=by rw [hWl];exact((((Below.refl _ _).alloc (zq _) _).alloc (by simp) _).alloc (by simp;omega) _).alloc (by simp;omega) _
     have b13:Boxed Wl Wr.heap.size 3 (natC c):=by rw [hWl];exact((((Boxed.new Wr _ _).alloc _).alloc _).alloc _)
     have b0:Boxed Wl (Wr.heap.size+1) 111 (.slice sa ns.length sc):=by
      rw [hWl]
      have:=((Boxed.new (Wr.alloc (.cells #[.int .i64 (c:Int)] 3)) 111 (.slice sa ns.length sc)).alloc (.cells #[.int .i64 (k:Int)] 3)).alloc (.cells #[.int .i64 0] 3)
      rwa [World.size_alloc]at this
     have b1:Boxed Wl (Wr.heap.size+1+1) 3 (natC k):=by
      rw [hWl]
      have:=(Boxed.new ((Wr.alloc (.cells #[.int .i64 (c:Int)] 3)).alloc (.cells #[.slice sa ns.length sc] 111)) 3 (natC k)).alloc (.cells #[.int .i64 0] 3)
      rwa [World.size_alloc,World.size_alloc]at this
     have b2:Boxed Wl (Wr.heap.size+1+1+1) 3 (natC 0):=by
      rw [hWl]
      have:=Boxed.new (((Wr.alloc (.cells #[.int .i64 (c:Int)] 3)).alloc (.cells #[.slice sa ns.length sc] 111)).alloc (.cells #[.int .i64 (k:Int)] 3)) 3 (natC 0)
      rwa [World.size_alloc,World.size_alloc,World.size_alloc]at this
     have hGl:=HG2.out.below hbl
     have hXl:Boxed Wl (W.heap.size+1) 111 (.slice (some ⟨W.heap.size,0,none⟩) nd.length nd.length):=(hbl.block _ (by omega)).trans HX.out
     have hBl:Below W.heap.size W Wl:=HB.out.trans (hbl.mono (by omega))
     have hML:Marks W.heap.size ds Wl:=HM.out.keep (fun j hj ⟨o,ho,hc⟩=>hbl.block j (zb ho))
     have hsp:∀ (i:Nat) (u:Value) (b:Nat),vs2[i]? = some u→u.ownBlock=some b→b<Wr.heap.size∨Wl.heap.size≤b:=fun i u b hu hb=>by
      have h1:=(zc hu)
      have h2:=HG2.out.len
      exact .inl ((HG2.out.row i u _ hu (ze (by omega))).lt b hb).2
     rw [← hWl]
     clear hWl hc5r hcX hcgk
     have HML:=zh hML
     have HBL:=zh hBl
     have HLK:=zh (z4g (co:=co) (pl:=pl) (S:=sucs ns.length es) (M:=nd.length) (R:=ns.length) (fun a=>z50 (N:=ns.length) (es:=es) a) k)
     have hkN:k*ns.length≤1048576:=by
      have:=Nat.mul_le_mul (show k≤1024 by omega) hNn
      omega
     have hrk:((sucs ns.length es).getD k []).length≤ns.length:=z50 (N:=ns.length) (es:=es) k
     refine wpIn_rangeFunc_ownG rfl (by decide) (gf:=126) rfl trivial (enters_of func126 (by kernel_rfl) rfl)
      (zf2 8 (by decide) (Wr.heap.size+1) w1.heap.size (.slice sa ns.length sc) (sucs ns.length es) k 0 (by rw [z08];exact hlt) (by rw [z08];omega) (by omega) Wl b0 b1 b2 (HRW.out.below (hBl.mono (by omega)) (zq _)) (by omega)) kpB_t (kpB_b (by omega) (by omega)) (Below.refl _ _) (fun _=>rfl)
      (fun pre W'=>∃ vsx,Grid W.heap.size (.slice (some ⟨W.heap.size,0,none⟩) nd.length nd.length) vsx (((valsOf pre).foldl (cedge co pl k) (couts co pl (sucs ns.length es) nd.length k)).map (·.map natC)) W'∧Boxed W' (W.heap.size+1) 111 (.slice (some ⟨W.heap.size,0,none⟩) nd.length nd.length)∧Boxed W' Wr.heap.size 3 (natC c)∧Below W.heap.size W W'∧Marks W.heap.size ds W'∧Wl.heap.size≤W'.heap.size∧∀ (i:Nat) (u:Value) (b:Nat),vsx[i]? = some u→u.ownBlock=some b→b<Wr.heap.size∨Wl.heap.size≤b) (fun _ _ _=>False) ?hI (fun _ _ _ _ _ h _ _=>h) ?h0
      (fun x=>{ tmps:=#[.agg #[.slice na ns.length nc,.slice ao es.length ec],.pointer (some ⟨w.heap.size,0,none⟩),.slice none 0 0,.slice none 0 0,.slice sa ns.length sc,.pointer (some ⟨w2.heap.size,0,none⟩),natC ct,.pointer (some ⟨w3.heap.size,0,none⟩),.slice nva nd.length nvc,u9,u10,.pointer (some ⟨W.heap.size+1,0,none⟩),.int .i64 k,.pointer (some ⟨Wr.heap.size,0,none⟩),natC x.1,u15,u16,u17,u18,u19,u20,u21,u22,u23,u24,u25,u26,u27,u28,u29,u30,u31,u32,u33,u34,u35,u36,u37,u38,u39,u40,u41,u42,u43,u44,u45,u46,u47,u48,u49,u50,u51,u52,u53,u54,u55,u56,u57,u58,u59,u60,u61,u62,u63,u64,u65,.slice (some ⟨gc,0,none⟩) ns.length ns.length,.int .i64 ns.length,.int .i64 k,.bool true,.int .i64 k,.pointer (some ⟨gc,k,none⟩),natC c,.slice sa ns.length sc,.int .i64 k,.func (.func 126) #[] #[.pointer (some ⟨Wr.heap.size+1,0,none⟩),.pointer (some ⟨Wr.heap.size+1+1,0,none⟩),.pointer (some ⟨Wr.heap.size+1+1+1,0,none⟩)],natC x.1,u77,u78,u79,u80,u81,u82,u83,u84,u85,u86,u87,u88,u89,u90,u91,u92,u93,u94,u95,u96,u97,u98,u99,u100,u101,u102,u103,u104,u105],defers:=[] }) ?assign ?body ?done ?stop
     case hI =>
      intro pre X Y row h hg hr
      obtain⟨vsx,h1,h2,h3,h4,h5,h6,h7⟩:=h
      exact⟨vsx,h1.turnN hg (fun r e=>(hr r e).2),zeb h2 hg (fun r e=>(hr r e).2),zeb h3 hg (fun r e=>(hr r e).2),h4.grown hg (by omega) (fun r e=>by have:=(hr r e).1;omega),hML.turn h5 hg (fun r e=>(hr r e).1),by have:=hg.size;omega,h7⟩
     case h0=>exact⟨vs2,hGl,hXl,b13,hBl,hML,zq _,hsp⟩
     case assign =>
      intro l x W2 K hK
      simp only [encOf]
      gi_wp2
      exact hK
     case body =>
      clear hGl hXl b13 b0 b1 b2 hBl hML hsp
      rintro l pre x W2 ⟨vsx,hGx,hXx,hbx,hBx,hMx,hsx,hsep⟩ hprel
      have hxl:x.1<ns.length:=by
       have:=x.2
       unfold ofL at this
       have:=z2c (N:=ns.length) (es:=es) k _ (List.mem_filter.1 this).1
       rwa [z08]at this
      have hpl:(valsOf pre).length≤ns.length:=by
       rw [z52]
       have h1:(ofL (sucs ns.length es) k 0).length≤((sucs ns.length es).getD k []).length:=by unfold ofL;exact List.length_filter_le _ _
       omega
      obtain⟨x1,hkx⟩:∃ y,y=x.1:=⟨_,rfl⟩
      rw [← hkx]at hxl ⊢
      obtain⟨hd0,hd1⟩:=HCO.out x1 hxl
      obtain⟨d,hdd⟩:∃ d:Nat,gD co x1=(d:Int):=⟨(gD co x1).toNat,by omega⟩
      have HVS:Hid ((valsOf (pre++[x])).foldl (cedge co pl k) (couts co pl (sucs ns.length es) nd.length k)=cedge co pl k ((valsOf pre).foldl (cedge co pl k) (couts co pl (sucs ns.length es) nd.length k)) x1):=zh (by rw [z37,hkx,List.foldl_append];rfl)
      obtain⟨g1l,g2l⟩:=z57 (co:=co) (pl:=pl) (n:=k) (valsOf pre) HLK.out.2
      rw [HLK.out.1]at g1l
      generalize (valsOf pre).foldl (cedge co pl k) (couts co pl (sucs ns.length es) nd.length k)=outx at *
      clear hkx
      have hx0:(0:Int)≤(x1:Int):=by omega
      have hx1:(x1:Int)<(ns.length:Int):=by omega
      have h5r:Boxed W2 w2.heap.size 109 (.slice (some ⟨gc,0,none⟩) ns.length ns.length):=(hBx.block _ (by omega)).trans H5.out
      have hc5r:=h5r.cell
      have hIr:Ints W2 gc co:=(hBx.block _ (by omega)).trans HI.out
      have hcgx:W2.cell? ⟨gc,x1,none⟩=some (natC d):=by
       have:=hIr.cell x1 _ (z0z (by rw [HCL.out];exact hxl))
       rw [hdd]at this
       exact this
      have hc13:=hbx.cell
      by_cases hdc:(d:Int)=(c:Int)
      ·have hdcd:decide ((d:Int)=(c:Int))=true:=decide_eq_true hdc
       have HCE:Hid (cedge co pl k outx x1=outx):=zh (by unfold cedge;rw [if_pos (by rw [hdd,HCC.out];exact hdc)])
       have edc:d=c:=by omega
       subst d
       have HALL:Hid (∃ vsx,Grid W.heap.size (.slice (some ⟨W.heap.size,0,none⟩) nd.length nd.length) vsx (outx.map (·.map natC)) W2∧Boxed W2 (W.heap.size+1) 111 (.slice (some ⟨W.heap.size,0,none⟩) nd.length nd.length)∧Boxed W2 Wr.heap.size 3 (natC c)∧Below W.heap.size W W2∧Marks W.heap.size ds W2∧Wl.heap.size≤W2.heap.size∧∀ (i:Nat) (u:Value) (b:Nat),vsx[i]? = some u→u.ownBlock=some b→b<Wr.heap.size∨Wl.heap.size≤b):=zh ⟨vsx,hGx,hXx,hbx,hBx,hMx,hsx,hsep⟩
       clear hGx hXx hbx hBx hMx hsep h5r hIr
       gi_wp2_with fail
       refine⟨(KeepsOthers.refl _).from _,⟨rfl,Below.refl _ _⟩,?_⟩
       obtain⟨vs9,hh⟩:=HALL.out
       exact⟨vs9,by rw [HVS.out,HCE.out];exact hh.1,hh.2⟩
      ·have hdcd:decide ((d:Int)=(c:Int))=false:=decide_eq_false hdc
       obtain⟨i,hii,hin⟩:=HPF.out.2 k hlt
       obtain⟨jj,hjj,hjn⟩:=HPF.out.2 x1 hxl
       rw [HCC.out,Int.toNat_natCast]at hii
       rw [hdd,Int.toNat_natCast]at hjj
       have hpll:=HPF.out.1
       have hcc0:(0:Int)≤(c:Int):=by omega
       have hcc1:(c:Int)<(ct:Int):=by have:=HCC.out;omega
       have hdd0:(0:Int)≤(d:Int):=by omega
       have hdd1:(d:Int)<(ct:Int):=by omega
       have hi0:(0:Int)≤(i:Int):=by omega
       have hi1:(i:Int)<(nd.length:Int):=by omega
       have hgl:outx.length=nd.length:=g1l
       have hlr0:=g2l i
       obtain⟨rw_,hrw⟩:∃ r,r=outx.getD i []:=⟨_,rfl⟩
       rw [← hrw]at hlr0
       have hlr:rw_.length≤2000000:=by omega
       have HRW:=zh hrw
       obtain⟨u,hu⟩:∃ u,vsx[i]? = some u:=⟨vsx[i]'(by have:=hGx.len;rw [List.length_map]at this;omega),by simp⟩
       have hl:(outx.map (·.map natC))[i]? = some (rw_.map natC):=by rw [hrw,List.getElem?_map,zg,ze (by omega)];rfl
       have hown:=hGx.row i u _ hu hl
       rw [List.length_map]at hown
       have htop:=hGx.top
       rw [List.length_map,hgl]at htop
       have hcu:W2.cell? ⟨W.heap.size,i,none⟩=some u:=z0o htop i u hu
       have hfu:W2.frozen? ⟨W.heap.size,i,none⟩=false:=htop.frozenAt i
       have h7x:Boxed W2 w3.heap.size 109 (.slice (some ⟨gp,0,none⟩) ct ct):=(hBx.block _ (by omega)).trans H7.out
       have hPx:Ints W2 gp pl:=(hBx.block _ (by omega)).trans HP.out
       have hcpx:W2.cell? ⟨gp,c,none⟩=some (natC i):=by have:=hPx.cell c _ (z0z (by omega));rw [hii]at this;exact this
       have hcpd:W2.cell? ⟨gp,d,none⟩=some (natC jj):=by have:=hPx.cell d _ (z0z (by omega));rw [hjj]at this;exact this
       have hne:u.ownBlock≠some W.heap.size:=fun e=>by
        rcases z3l hown htop (by decide)with h | h
        ·rw [h]at e;cases e
        ·exact h (by rw [e];rfl)
       have hneX:u.ownBlock≠some (W.heap.size+1):=fun e=>z6q hXx hown (by decide) e.symm
       have hob:∀ b,u.ownBlock=some b→W.heap.size≤b∧(b<Wr.heap.size∨Wl.heap.size≤b):=fun b hb=>⟨(hown.lt b hb).1,hsep i u b hu hb⟩
       obtain⟨i0,hi0',hz0,hz1,hz2⟩:=info_parts z1l
       have hS0:HeldS ⟨W.heap.size+1,0,none⟩ ⟨w3.heap.size,0,none⟩ ⟨Wr.heap.size,0,none⟩ ⟨gp,c,none⟩ ⟨W.heap.size,i,none⟩ ⟨gp,d,none⟩ (.slice (some ⟨W.heap.size,0,none⟩) nd.length nd.length) (.slice (some ⟨gp,0,none⟩) ct ct) (natC c) (natC i) u (natC jj) W2.drew:=⟨hXx.cell,h7x.cell,hc13,hcpx,hcu,hcpd⟩
       have HN:Hid (∀ W1,((W2.alloc (.cells #[natC jj] 3)).drew).grownBy W1 u.ownBlock→HeldS ⟨W.heap.size+1,0,none⟩ ⟨w3.heap.size,0,none⟩ ⟨Wr.heap.size,0,none⟩ ⟨gp,c,none⟩ ⟨W.heap.size,i,none⟩ ⟨gp,d,none⟩ (.slice (some ⟨W.heap.size,0,none⟩) nd.length nd.length) (.slice (some ⟨gp,0,none⟩) ct ct) (natC c) (natC i) u (natC jj) W1∧W1.frozen? ⟨W.heap.size,i,none⟩=false):=zh (fun W1 hg=>by
        have a0:some (W.heap.size+1)≠u.ownBlock:=fun e=>hneX e.symm
        have a1:some w3.heap.size≠u.ownBlock:=fun e=>by have:=hob _ e.symm;omega
        have a2:some gp≠u.ownBlock:=fun e=>by have:=hob _ e.symm;omega
        have a3:some W.heap.size≠u.ownBlock:=fun e=>hne e.symm
        have a4:some Wr.heap.size≠u.ownBlock:=fun e=>by have:=hob _ e.symm;omega
        refine⟨⟨?_,?_,?_,?_,?_,?_⟩,?_⟩
        ·rw [hg.cell_far _ (by show W.heap.size+1<_;simp;omega) a0]
         exact cellA _ hXx.cell
        ·rw [hg.cell_far _ (by show w3.heap.size<_;simp;omega) a1]
         exact cellA _ h7x.cell
        ·rw [hg.cell_far _ (by show Wr.heap.size<_;simp;omega) a4]
         exact cellA _ hc13
        ·rw [hg.cell_far _ (by show gp<_;simp;omega) a2]
         exact cellA _ hcpx
        ·rw [hg.cell_far _ (by show W.heap.size<_;simp;omega) a3]
         exact cellA _ hcu
        ·rw [hg.cell_far _ (by show gp<_;simp;omega) a2]
         exact cellA _ hcpd
        ·rw [hg.frozen_far _ (by show W.heap.size<_;simp;omega) a3]
         exact frozA _ hcu hfu)
       have HOWN:Hid (((W2.alloc (.cells #[natC jj] 3)).drew).ownsRow W.heap.size 3 1 u rw_.length (rw_.map natC)):=zh ((hown.alloc _).drew)
       have hcl:∀ j,u.ownBlock=some j→∃ o:Obj,W2.heap[j]? = some o∧o.isCells=true:=z28 hown
       have HCE:Hid (cedge co pl k outx x1=outx.set i (rw_++[jj])):=zh (by
        unfold cedge
        rw [if_neg (by rw [hdd,HCC.out];exact hdc),HCC.out,hdd,Int.toNat_natCast,Int.toNat_natCast,hii,hjj,Int.toNat_natCast,Int.toNat_natCast,← hrw])
       have HGX:=zh hGx
       have HXX:=zh hXx
       have HBX:=zh hbx
       have HBB:=zh hBx
       have HMX:=zh hMx
       have HSEP:=zh hsep
       have HU:=zh hu
       have HL:=zh hl
       have HOB:=zh hob
       have HCL2:=zh hcl
       have HNE:=zh (And.intro hne hneX)
       clear hGx hXx hbx hBx hMx hsep hu hl hown htop hob hne hneX hcl h7x hcpx hcpd hcu hfu hPx h5r hIr hii hjj hdd hrw
       gi_wp2_with fail
       refine z4u (S:=HeldS ⟨W.heap.size+1,0,none⟩ ⟨w3.heap.size,0,none⟩ ⟨Wr.heap.size,0,none⟩ ⟨gp,c,none⟩ ⟨W.heap.size,i,none⟩ ⟨gp,d,none⟩ (.slice (some ⟨W.heap.size,0,none⟩) nd.length nd.length) (.slice (some ⟨gp,0,none⟩) ct ct) (natC c) (natC i) u (natC jj)) 18 (by kernel_rfl) (by kernel_rfl) (fun _ _ h=>h) (by kernel_rfl) ?_
       simp only [List.take_succ_cons,List.take_zero]
       refine zt 0 _ rfl ?_;simp only [zl1];refine zt 1 _ rfl ?_;simp only [zl1];refine zt 2 _ rfl ?_;simp only [zl1];refine zt 3 _ rfl ?_;simp only [zl1];refine zt 4 _ rfl ?_;simp only [zl1];refine zt 5 _ rfl ?_;simp only [zl1];refine zt 6 _ rfl ?_;simp only [zl1];refine zt 7 _ rfl ?_;simp only [zl1];refine zt 8 _ rfl ?_;simp only [zl1];refine zt 9 _ rfl ?_;simp only [zl1]
       refine zt 10 _ rfl ?_;simp only [zl1];refine zt 11 _ rfl ?_;simp only [zl1];refine zt 12 _ rfl ?_;simp only [zl1];refine zt 13 _ rfl ?_;simp only [zl1];refine zt 14 _ rfl ?_;simp only [zl1];refine zt 15 _ rfl ?_;simp only [zl1]
       refine zr 16 rfl fun K hK=>?_
       go_simp
       refine hK.out _ _ ⟨cellA _ hS0.1,cellA _ hS0.2.1,cellA _ hS0.2.2.1,cellA _ hS0.2.2.2.1,cellA _ hS0.2.2.2.2.1,cellA _ hS0.2.2.2.2.2⟩ (fun _=>?_)
       clear hK K
       (try simp only [zl1])
       refine zr 17 rfl fun K hK=>?_
       refine step_append_lies _ (by rfl) _ _ _ (by rfl) W.heap.size 3 i0 (.int .i64 0) 1 8 underlying109 hi0' hz0 hz1 hz2 rfl (by decide) u _ _ (by rfl) HOWN.out ⟨W2.heap.size,0,none⟩ 1 1 [natC jj] (by rfl) (by rfl) (World.news_of_block (cs:=#[natC jj]) (t:=3) (fr:=(0,0)) (heap_alloc_new W2 _)) (by simp [Value.oneCell']) (by decide) (by unfold maxLen;omega) (by omega) (by show W.heap.size≤(W2.alloc _).heap.size;rw [World.size_alloc];omega) (W2.heap.size+1) (by simp) ?_
       intro gg cap w4 hown4 hg4 hat4 hlt4
       obtain⟨hS4,hfz4⟩:=HN.out _ hg4
       refine hK.out _ _ hS4 (fun _=>?_)
       have hct4:=hS4.2.2.2.2.1
       clear hK K hS4 hS0
       (try simp only [zl1])
       refine wpAnyH_done (by kernel_rfl) ?_ _
       show wpList _ _ _ _ _ _
       simp only [List.drop_succ_cons,List.drop_zero]
       go_wp2_with fail
       gi_wp2_with fail
       have g1:W2.grownBy w4 u.ownBlock:=(grownD (World.grownBy_alloc W2 _ _)).trans hg4
       have hwz4:=g1.size
       have hfin:=HGX.out.put i u (.slice (some ⟨gg,0,none⟩) (rw_.length+1) cap) _ (rw_.map natC++[natC jj]) (by rw [List.length_map,hgl]) HU.out HL.out g1 (by rw [List.length_append,List.length_map,List.length_singleton];exact hown4) (by
        rcases hat4 with h | h
        ·exact .inl (by rw [h];rfl)
        ·refine .inr fun b hb=>?_
         have e:gg=b:=by simpa [Value.ownBlock]using hb
         omega)
       have hmap:(outx.map (·.map natC)).set i (rw_.map natC++[natC jj])=(cedge co pl k outx x1).map (·.map natC):=by
        rw [HCE.out,List.map_set,List.map_append]
        rfl
       have hbx4:Boxed w4 Wr.heap.size 3 (natC c):=(g1.block _ HBX.out.lt (fun e=>by have:=(HOB.out _ e.symm).2;omega)).trans HBX.out
       have hxx4:Boxed w4 (W.heap.size+1) 111 (.slice (some ⟨W.heap.size,0,none⟩) nd.length nd.length):=(g1.block _ HXX.out.lt (fun e=>HNE.out.2 e.symm)).trans HXX.out
       have hbb:Below W.heap.size W2 w4:=(Below.refl _ _).grown g1 (by omega) (fun b hb=>(HOB.out b hb).1)
       refine⟨((KeepsOthers.of_grownBy g1 (fun j o ej hj=>by obtain⟨o',h1,h2⟩:=HCL2.out j ej;rw [h1]at hj;cases hj;exact h2)).trans (KeepsOthers.setCell w4 _ _)).from _,⟨?_,?_⟩,vsx.set i (.slice (some ⟨gg,0,none⟩) (rw_.length+1) cap),?_,?_,?_,?_,?_,?_,?_⟩
       ·exact(heap_setCell_other _ _ _ _ (fun e=>by have e:Wr.heap.size+1+1+1=W.heap.size:=e;omega)).trans (g1.block _ (by omega) (fun e=>by have:=(HOB.out _ e.symm).2;omega))
       ·exact((hbb.mono (by omega)).setCell (by exact(by omega:w1.heap.size≤W.heap.size)) _)
       ·rw [HVS.out,← hmap]
        exact hfin
       ·exact(heap_setCell_other _ _ _ _ (fun e=>by have e:W.heap.size+1=W.heap.size:=e;omega)).trans hxx4
       ·exact(heap_setCell_other _ _ _ _ (fun e=>by have e:Wr.heap.size=W.heap.size:=e;omega)).trans hbx4
       ·exact(HBB.out.trans hbb).setCell (by exact zq W.heap.size) _
       ·exact(HMX.out.grown g1 (fun r e=>HCL2.out r e)).keep (NoCells.of_keeps ((KeepsOthers.setCell w4 _ _).from _))
       ·show Wl.heap.size≤(w4.setCell _ _).heap.size
        rw [World.size_setCell];omega
       ·intro i' u' b hu' hb
        rw [List.getElem?_set]at hu'
        split at hu'
        ·split at hu'
         ·cases hu'
          have e:gg=b:=by simpa [Value.ownBlock]using hb
          rcases hat4 with h | h
          ·exact(HOB.out gg h).2.imp (fun h=>by omega) (fun h=>by omega)
          ·exact .inr (by omega)
         ·cases hu'
        ·exact HSEP.out i' u' b hu' hb
     case done =>
      rintro D xs W2 hD hxs ⟨vsx,hGx,hXx,hbx,hBx,hMx,hsx,hsep⟩ hK
      have hfl:ofL (sucs ns.length es) k 0=(sucs ns.length es).getD k []:=by unfold ofL;rw [List.filter_eq_self.2 (by simp)]
      rw [hxs,hfl,← z3u]at hGx
      have HMP:=zh (hMx.push HML.out (by omega) (zq _) hD hK)
      have HGX:=zh hGx
      have HXX:=zh hXx
      have HBB:=zh hBx
      clear hGx hXx hbx hBx hMx hsep
      gi_wp2_with fail
      have hjj:=HJ.out
      refine⟨ns.length - (k+1),by omega,?_⟩
      repeat apply Exists.intro
      refine⟨⟨rfl,hlt,?_,HXX.out,HBB.out,?_,by omega⟩,?_⟩
      rotate_left 2
      ·repeat' (first | exact rfl | apply And.intro)
      rotate_left
      ·exact HGX.out
      ·exact HMP.out
     case stop =>
      rintro D c pre W2 hD _ h _
      exact h.elim
    ·have hkk:k=ns.length:=by omega
     subst hkk
     have HG2:=zh hG2
     have HX:=zh hX
     have HB:=zh hB
     have HM:=zh hM
     clear hG2 hX hB hM h5r hIr
     gi_wp2_with fail
     refine z3m (S:=fun X=>X.cell? ⟨W.heap.size+1,0,none⟩=some (.slice (some ⟨W.heap.size,0,none⟩) nd.length nd.length)) (by kernel_rfl) (fun _ _ h=>by obtain⟨_,_,h,_⟩:=h;cases h) ?_
     have hcS:(fun X:World=>X.cell? ⟨W.heap.size+1,0,none⟩=some (.slice (some ⟨W.heap.size,0,none⟩) nd.length nd.length)) Wr.drew:=hcX
     (refine zl3 0 ?_ rfl ?_ ?_;rotate_left;(· (intro w hSw;have c0:=hSw;go_simp;try with_reducible rfl));(try simp only [zl1]))
     (refine zl3 1 ?_ rfl ?_ ?_;rotate_left;(· (intro w hSw;have c0:=hSw;go_simp;try with_reducible rfl));(try simp only [zl1]))
     (refine zl3 2 ?_ rfl ?_ ?_;rotate_left;(· (intro w hSw;have c0:=hSw;go_simp;try with_reducible rfl));(try simp only [zl1]))
     (refine zl3 3 ?_ rfl ?_ ?_;rotate_left;(· (intro w hSw;have c0:=hSw;go_simp;try with_reducible rfl));(try simp only [zl1]))
     refine wpAnyH_done (by kernel_rfl) ?_ _
     refine NoPanic.normal ?_
     clear hcS
     gi_wp2_with fail
     refine z30 HM.out.drew (Shut.refl _ _) fun W' hs=>⟨.tuple #[.slice nva nd.length nvc,(.slice (some ⟨W.heap.size,0,none⟩) nd.length nd.length)],by simp [results,Tryz.results62,go_sem],_,_,rfl,?_,?_,?_⟩
     ·rw [← HCTE.out,← HCOE.out,← HND.out]
      have h1:=HG.out.rows
      exact((h1.below HB.out (zq _)).below (B':=W.heap.size) ⟨hs.os,hs.tape,hs.output,by rw [hs.size];exact zq _,hs.low⟩ (zq _)).mono (by have:=hs.size;have e:Wr.drew.heap.size=Wr.heap.size:=rfl;omega)
     ·rw [← HCTE.out,← HCOE.out,← HND.out,← HPL.out]
      exact(HG2.out.shut (W':=W') (B':=W.heap.size) ⟨hs.os,hs.tape,hs.output,hs.size,hs.low,hs.cells⟩).rows
     ·exact HBW.out.trans (HB.out.trans (Below.mono (B:=W.heap.size) ⟨hs.os,hs.tape,hs.output,by rw [hs.size];exact zq _,hs.low⟩ (zq _)) |>.mono (by omega))
end Go.Proofs.YtapbhoodgnmnkaaGreatDoor
