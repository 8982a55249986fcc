/- Laws and contracts. -/
import Derived.Test.YtapbhoodgnmnkaaGreatDoorJV
set_option linter.unusedVariables false
set_option linter.unusedSimpArgs false
set_option maxRecDepth 100000
set_option maxHeartbeats 32000000
namespace Go.Proofs.YtapbhoodgnmnkaaGreatDoor
open Go.Proofs.Tryz Go Go.RowKit
theorem zg9 {v:Int×Int×Int}(hv:validB v.1 v.2.1 v.2.2=true):IntKind.i64.wrap (1000*v.2.1)=1000*v.2.1∧wrap64 (1000*v.2.1)=1000*v.2.1∧IntKind.i64.wrap (1000*v.2.1+v.2.2)=plc v∧wrap64 (1000*v.2.1+v.2.2)=plc v:=by
 obtain⟨⟨a0,a1⟩,⟨b0,b1⟩,c0,c1⟩:=zfg hv
 unfold plc
 refine⟨by rw [IntWalk.i64_in _ (by omega)],by unfold wrap64;omega,by rw [IntWalk.i64_in _ (by omega)],by unfold wrap64;omega⟩
theorem z5w (v:Int×Int×Int)(w:World)(hv:validB v.1 v.2.1 v.2.2=true) :
  Calls prog 58 #[.agg #[intC v.1,intC v.2.1,intC v.2.2]] w fun e w'=>e=.returned (.int .i64 (plc v))∧Below w.heap.size w w':=by
 obtain⟨h1,h2,h3,h4⟩:=zg9 hv
 generalize plc v=p at *
 clear hv
 go_enter func58,ntmps58
 go_wp2_with fail
 go_ret
 exact⟨rfl,belQ w _⟩
def HeldSt (gq b o:Nat)(q:ReqL)(rq:Value)(y:SelL)(W:World):Prop:=(W.cell? ⟨gq,0,none⟩=some (.string q.1)∧W.cell? ⟨gq,1,none⟩=some rq)∧W.cell? ⟨b,o,none⟩=some (.string y.1)∧W.cell? ⟨b,o+1,none⟩=some (intC y.2.1)∧W.cell? ⟨b,o+2,none⟩=some (intC y.2.2.1)∧W.cell? ⟨b,o+3,none⟩=some (intC y.2.2.2)
theorem zkm {s:List SelL}{q:ReqL}{k:Nat}(hk:k<s.length):metB (s.take (k+1)) q=(metB (s.take k) q||(decide (s[k].1=q.1)&&hasB q.2 (plc s[k].2))):=by
 unfold metB
 rw [zs hk,List.any_append]
 simp [plc]
theorem zkl {s:List SelL}{q:ReqL}{k:Nat}(hk:k<s.length)(h1:s[k].1=q.1)(h2:hasB q.2 (plc s[k].2)=true):metB s q=true:=by
 unfold metB
 rw [List.any_eq_true]
 refine⟨s[k],List.getElem_mem hk,?_⟩
 unfold plc at h2
 rw [decide_eq_true h1,h2]
 rfl
theorem z34 {B:Nat}{ao:Option Addr}{cap:Nat}{s:List SelL}{W:World}(h:SelsOf B (.slice ao s.length cap) s W){k:Nat}(hk:k<s.length) :
  ∃ b off,ao=some ⟨b,off,none⟩∧b<B∧W.cell? ⟨b,off+k*4,none⟩=some (.string s[k].1)∧W.cell? ⟨b,off+k*4+1,none⟩=some (intC s[k].2.1)∧W.cell? ⟨b,off+k*4+2,none⟩=some (intC s[k].2.2.1)∧W.cell? ⟨b,off+k*4+3,none⟩=some (intC s[k].2.2.2):=by
 obtain⟨a,c,e,h⟩:=h
 cases e
 exact h k _ (ze hk)
theorem zf6 (q:ReqL)(rq sv:Value)(s:List SelL)(w:World)(hq:q.2.length≤1000000)(hs:s.length≤1000000)(hv:∀ y∈s,validB y.2.1 y.2.2.1 y.2.2.2=true)(hQ:SpansOf w.heap.size rq q.2 w)(hS:SelsOf w.heap.size sv s w) :
  Calls prog 41 #[.agg #[.string q.1,rq],sv] w fun e w'=>e=.returned (.bool (metB s q))∧Below w.heap.size w w':=by
 have HH:=zh (fun W (hb:Below w.heap.size w W) (p:Int)=>zkw rq q.2 p W hq ((hQ.below hb (zq _)).mono hb.size))
 have HV:=zh hv
 obtain⟨so,sc,rfl⟩:=zo hS
 have HS:=zh hS
 obtain⟨qa,qn,qc,rfl⟩:∃ a n c,rq=.slice a n c:=by obtain⟨a,c,e,_⟩:=hQ;exact⟨a,_,c,e⟩
 have HG:=zh (zn w (.cells #[.string q.1,.slice qa qn qc] 89))
 have HB0:=zh (belQ w (.cells #[.string q.1,.slice qa qn qc] 89))
 clear hS hQ hv
 go_enter func41,ntmps41
 go_upto_region 1 with fail
 generalize w.alloc (.cells #[.string q.1,.slice qa qn qc] 89)=W at *
 have HGK:=zh (fun V (hb:Below W.heap.size W V)=>((hb.block _ (zb HG.out)).trans HG.out:V.heap[w.heap.size]? = _))
 go_wp2_with fail
 go_loopw [5] (fun p wr=>Hid (∃ k:Nat,k≤s.length∧p=.int .i64 (k:Int)∧metB (s.take k) q=false∧Below W.heap.size W wr)) (fun p _=>s.length - (intOf p).toNat)
 case atStart=>exact zh ⟨0,Nat.zero_le _,rfl,rfl,Below.refl _ _⟩
 case round =>
  obtain⟨k,hk,rfl,hm,hb⟩:=hrel.out
  have HM:=zh hm
  have HBW:=zh hb
  clear hrel hm hb
  have HBB:=zh (HB0.out.trans (HBW.out.mono HB0.out.size))
  by_cases hlt:k<s.length
  case neg =>
   have HR:Hid (metB s q=false):=zh (by have:=HM.out;rwa [List.take_of_length_le (Nat.le_of_not_lt hlt)]at this)
   go_wp2_with fail
   go_ret
   exact⟨by rw [HR.out];rfl,HBB.out⟩
  have hk0:(0:Int)≤(k:Int):=Int.natCast_nonneg k
  have hkz:(k:Int)<(s.length:Int):=Int.ofNat_lt.2 hlt
  obtain⟨b,off,rfl,hlb,d0,d1,d2,d3⟩:=z34 HS.out hlt
  have HSB:Hid (∀ V,Below W.heap.size W V→HeldSt w.heap.size b (off+k*4) q (.slice qa qn qc) s[k] V):=zh (fun V hb=>by
   have hbb:=HB0.out.trans (hb.mono HB0.out.size)
   exact⟨⟨blk0 (HGK.out V hb),blk1 (HGK.out V hb)⟩,(hbb.cell (p:=⟨b,off+k*4,none⟩) hlb).trans d0,(hbb.cell (p:=⟨b,off+k*4+1,none⟩) hlb).trans d1,(hbb.cell (p:=⟨b,off+k*4+2,none⟩) hlb).trans d2,(hbb.cell (p:=⟨b,off+k*4+3,none⟩) hlb).trans d3⟩)
  have HMT:=zh (zkm (q:=q) hlt)
  have HMS:=zh (fun h1 h2=>zkl (q:=q) hlt h1 h2)
  have HPL:=zh (fun W=>z5w s[k].2 W (HV.out _ (List.getElem_mem hlt)))
  generalize s[k]=y at *
  clear d0 d1 d2 d3
  obtain⟨qt,hqt⟩:∃ qt,hasB q.2 (plc y.2)=qt:=⟨_,rfl⟩
  rw [hqt]at HMT HMS
  have HQT:=zh hqt
  clear hqt
  by_cases hp:y.1=q.1
  case neg =>
   have hpb:(y.1.toList == q.1.toList)=false:=by rw [z0q];exact decide_eq_false hp
   have HMN:Hid (metB (s.take (k+1)) q=false):=zh (by rw [HMT.out,HM.out,decide_eq_false hp];rfl)
   have HBD:Hid (Below W.heap.size W wr.drew):=zh HBW.out.drew
   clear hp HMT HMS HPL HM
   go_upto_region 4 with fail
   refine wp_region_noPanic ?_
   refine wp_region_held_drew (S:=HeldSt w.heap.size b (off+k*4) q (.slice qa qn qc) y) (by kernel_rfl) (HSB.out _ HBD.out) (fun hS0=>?_)
   refine zt 0 _ rfl ?_;simp only [zl1];refine zt 1 _ rfl ?_;simp only [zl1];refine zt 2 _ rfl ?_;simp only [zl1];refine zt 3 _ rfl ?_;simp only [zl1];refine zt 4 _ rfl ?_;simp only [zl1];refine zt 5 _ rfl ?_;simp only [zl1];refine zt 6 _ rfl ?_;simp only [zl1];refine zt 7 _ rfl ?_;simp only [zl1];refine zt 8 _ rfl ?_;simp only [zl1];refine zu 9 rfl ?_;simp only [zl1];refine zu 10 rfl ?_;simp only [zl1]
   refine zu 11 rfl ?_;simp only [zl1];refine zu 12 rfl ?_;simp only [zl1];refine zu 13 rfl ?_;simp only [zl1];refine zu 14 rfl ?_;simp only [zl1];refine zu 15 rfl ?_;simp only [zl1];refine zu 16 rfl ?_;simp only [zl1];refine zu 17 rfl ?_;simp only [zl1];refine zt 18 _ rfl ?_;simp only [zl1]
   refine wpAnyH_done (by kernel_rfl) ?_ _
   refine NoPanic.normal ?_
   go_wp2_with fail
   all_goals
    refine⟨zh ⟨k+1,hlt,by go_num,HMN.out,HBD.out⟩,?_⟩
    simp [intOf];omega
  have hpb:(y.1.toList == q.1.toList)=true:=by rw [z0q];exact decide_eq_true hp
  have HBD:Hid (Below W.heap.size W wr.drew):=zh HBW.out.drew
  cases qt with
  | false =>
   have HMN:Hid (metB (s.take (k+1)) q=false):=zh (by rw [HMT.out,HM.out,decide_eq_true hp];rfl)
   clear hp HMT HMS HM
   go_upto_region 4 with fail
   refine wp_region_noPanic ?_
   refine wp_region_held_drew (S:=HeldSt w.heap.size b (off+k*4) q (.slice qa qn qc) y) (by kernel_rfl) (HSB.out _ HBD.out) (fun hS0=>?_)
   refine zt 0 _ rfl ?_;simp only [zl1];refine zt 1 _ rfl ?_;simp only [zl1];refine zt 2 _ rfl ?_;simp only [zl1];refine zt 3 _ rfl ?_;simp only [zl1];refine zt 4 _ rfl ?_;simp only [zl1];refine zt 5 _ rfl ?_;simp only [zl1];refine zt 6 _ rfl ?_;simp only [zl1];refine zt 7 _ rfl ?_;simp only [zl1];refine zt 8 _ rfl ?_;simp only [zl1];refine zt 9 _ rfl ?_;simp only [zl1];refine zt 10 _ rfl ?_;simp only [zl1]
   refine zt 11 _ rfl ?_;simp only [zl1];refine zt 12 _ rfl ?_;simp only [zl1];refine zt 13 _ rfl ?_;simp only [zl1];refine zt 14 _ rfl ?_;simp only [zl1];refine zt 15 _ rfl ?_;simp only [zl1]
   refine zr 16 rfl fun K hK=>?_
   go_simp
   refine(HPL.out _).mono ?_
   rintro e w7 ⟨rfl,hb7⟩
   have HB7:=zj HBD hb7
   have hhc:=HH.out w7 (HB0.out.trans (HB7.out.mono HB0.out.size)) (plc y.2)
   rw [HQT.out]at hhc
   have HHC:=zh hhc
   clear hS0
   have hS0:=HSB.out _ HB7.out
   refine hK.out _ _ hS0 (fun _=>?_)
   clear hK K hb7 hhc
   (try simp only [zl1])
   refine zr 17 rfl fun K hK=>?_
   go_simp
   refine(HHC.out).mono ?_
   rintro e w8 ⟨rfl,hb8⟩
   have HB8:=zj HB7 hb8
   clear hS0
   have hS0:=HSB.out _ HB8.out
   refine hK.out _ _ hS0 (fun _=>?_)
   clear hK K hb8
   (try simp only [zl1])
   refine zt 18 _ rfl ?_;simp only [zl1]
   refine wpAnyH_done (by kernel_rfl) ?_ _
   refine NoPanic.normal ?_
   go_wp2_with fail
   all_goals
    refine⟨zh ⟨k+1,hlt,by go_num,HMN.out,HB8.out⟩,?_⟩
    simp [intOf];omega
  | true =>
   have HMY:Hid (metB s q=true):=zh (HMS.out hp rfl)
   clear hp HMT HMS HM
   go_upto_region 4 with fail
   refine wp_region_noPanic ?_
   refine wp_region_held_drew (S:=HeldSt w.heap.size b (off+k*4) q (.slice qa qn qc) y) (by kernel_rfl) (HSB.out _ HBD.out) (fun hS0=>?_)
   refine zt 0 _ rfl ?_;simp only [zl1];refine zt 1 _ rfl ?_;simp only [zl1];refine zt 2 _ rfl ?_;simp only [zl1];refine zt 3 _ rfl ?_;simp only [zl1];refine zt 4 _ rfl ?_;simp only [zl1];refine zt 5 _ rfl ?_;simp only [zl1];refine zt 6 _ rfl ?_;simp only [zl1];refine zt 7 _ rfl ?_;simp only [zl1];refine zt 8 _ rfl ?_;simp only [zl1];refine zt 9 _ rfl ?_;simp only [zl1];refine zt 10 _ rfl ?_;simp only [zl1]
   refine zt 11 _ rfl ?_;simp only [zl1];refine zt 12 _ rfl ?_;simp only [zl1];refine zt 13 _ rfl ?_;simp only [zl1];refine zt 14 _ rfl ?_;simp only [zl1];refine zt 15 _ rfl ?_;simp only [zl1]
   refine zr 16 rfl fun K hK=>?_
   go_simp
   refine(HPL.out _).mono ?_
   rintro e w7 ⟨rfl,hb7⟩
   have HB7:=zj HBD hb7
   have hhc:=HH.out w7 (HB0.out.trans (HB7.out.mono HB0.out.size)) (plc y.2)
   rw [HQT.out]at hhc
   have HHC:=zh hhc
   clear hS0
   have hS0:=HSB.out _ HB7.out
   refine hK.out _ _ hS0 (fun _=>?_)
   clear hK K hb7 hhc
   (try simp only [zl1])
   refine zr 17 rfl fun K hK=>?_
   go_simp
   refine(HHC.out).mono ?_
   rintro e w8 ⟨rfl,hb8⟩
   have HB8:=zj HB7 hb8
   clear hS0
   have hS0:=HSB.out _ HB8.out
   refine hK.out _ _ hS0 (fun _=>?_)
   clear hK K hb8
   (try simp only [zl1])
   refine zt 18 _ rfl ?_;simp only [zl1]
   refine wpAnyH_done (by kernel_rfl) ?_ _
   refine NoPanic.normal ?_
   have HBF:=zh (HB0.out.trans (HB8.out.mono HB0.out.size))
   go_wp2_with fail
   go_ret
   exact⟨by rw [HMY.out];rfl,HBF.out⟩
theorem z43 (sv:Value)(s:List SelL)(p:ByteArray)(w:World)(hs:s.length≤1000000)(hS:SelsOf w.heap.size sv s w) :
  Calls prog 60 #[sv,.string p] w fun e w'=>∃ v,e=.returned v∧SelsOf w'.heap.size v ((atS s p).toList) w'∧Below w.heap.size w w':=by
 obtain⟨so,sc,rfl⟩:=zo hS
 have HS:=zh hS
 clear hS
 go_enter func60,ntmps60
 go_wp2_with fail
 go_loopw [5] (fun q wr=>Hid (∃ k:Nat,k≤s.length∧q=.int .i64 (k:Int)∧(∀ j (hj:j<s.length),j<k→s[j].1≠p))∧wr=w) (fun q _=>s.length - (intOf q).toNat)
 case atStart=>exact⟨zh ⟨0,Nat.zero_le _,rfl,fun j _ hj=>absurd hj (Nat.not_lt_zero j)⟩,rfl⟩
 case round =>
  obtain⟨hr,hww⟩:=hrel
  obtain⟨k,hk,rfl,hn⟩:=hr.out
  have HN:=zh hn
  clear hr hn
  subst hww
  by_cases hlt:k<s.length
  case neg =>
   have HA:Hid (atS s p=none):=zh (z2w.2 fun y hy e=>by
    obtain⟨j,hj,rfl⟩:=List.mem_iff_getElem.1 hy
    exact HN.out j hj (by omega) e)
   clear HN
   go_wp2_with fail
   go_ret
   exact⟨.slice none 0 0,rfl,by rw [HA.out];exact⟨none,0,rfl,fun i x hx=>by cases hx⟩,Below.refl _ _⟩
  have hk0:(0:Int)≤(k:Int):=Int.natCast_nonneg k
  have hkz:(k:Int)<(s.length:Int):=Int.ofNat_lt.2 hlt
  obtain⟨b,off,rfl,hlb,d0,d1,d2,d3⟩:=z34 HS.out hlt
  by_cases hp:s[k].1=p
  case pos =>
   have HA:Hid (atS s p=some s[k]):=zh (by
    unfold atS
    rw [List.find?_eq_some_iff_getElem]
    refine⟨decide_eq_true hp,k,hlt,rfl,fun j hj=>?_⟩
    have:=HN.out j (by omega) hj
    simpa using this)
   have hpb:(s[k].1.toList == p.toList)=true:=by rw [z0q];exact decide_eq_true hp
   generalize s[k]=y at *
   clear HN hp
   have HNB:=zh (zn wr (.cells #[.string y.1,intC y.2.1,intC y.2.2.1,intC y.2.2.2] 53))
   have HBQ:=zh (belQ wr (.cells #[.string y.1,intC y.2.1,intC y.2.2.1,intC y.2.2.2] 53))
   have HSL:Hid (SelsOf (wr.alloc (.cells #[.string y.1,intC y.2.1,intC y.2.2.1,intC y.2.2.2] 53)).heap.size (.slice (some ⟨wr.heap.size,0,none⟩) 1 1) [y] (wr.alloc (.cells #[.string y.1,intC y.2.1,intC y.2.2.1,intC y.2.2.2] 53))):=zh ⟨_,_,rfl,fun i x hx=>by
    match i,hx with
    | 0,hx=>cases hx;exact⟨wr.heap.size,0,rfl,by simp,zw _ _ 0 _ _ _ HNB.out,zw _ _ 1 _ _ _ HNB.out,zw _ _ 2 _ _ _ HNB.out,zw _ _ 3 _ _ _ HNB.out⟩
    | i+1,hx=>simp at hx⟩
   go_wp2_with fail
   go_ret
   exact⟨_,rfl,by rw [HA.out];exact HSL.out,HBQ.out⟩
  case neg =>
   have HN2:Hid (∀ j (hj:j<s.length),j<k+1→s[j].1≠p):=zh (fun j hj hjk e=>by
    by_cases h:j<k
    ·exact HN.out j hj h e
    ·obtain rfl:j=k:=by omega
     exact hp e)
   have hpb:(s[k].1.toList == p.toList)=false:=by rw [z0q];exact decide_eq_false hp
   generalize s[k]=y at *
   clear HN hp
   go_wp2_with fail
   all_goals
    refine⟨⟨zh ⟨k+1,hlt,by go_num,HN2.out⟩,by trivial⟩,?_⟩
    simp [intOf];omega
theorem ReqXs.joinW {B:Nat}{l1 l2:List ReqL}{xs ys:List Value}{W:World}(h1:ReqXs B l1 xs W)(hx:xs.length=l1.length*2)(h2:ReqXs B l2 ys W):ReqXs B (l1++l2) (xs++ys) W:=fun i q hq=>by
 by_cases hi:i<l1.length
 ·rw [List.getElem?_append_left hi]at hq
  obtain⟨r,a,b,c⟩:=h1 i q hq
  exact⟨r,by rw [List.getElem?_append_left (by omega)];exact a,by rw [List.getElem?_append_left (by omega)];exact b,c⟩
 ·rw [List.getElem?_append_right (by omega)]at hq
  obtain⟨r,a,b,c⟩:=h2 _ q hq
  exact⟨r,by rw [List.getElem?_append_right (by omega),hx,show i*2 - l1.length*2=(i - l1.length)*2 by omega];exact a,by rw [List.getElem?_append_right (by omega),hx,show i*2+1 - l1.length*2=(i - l1.length)*2+1 by omega];exact b,c⟩
theorem zca {B b off cap:Nat}{l:List ReqL}{W:World}(h:ReqsOf B (.slice (some ⟨b,off,none⟩) l.length cap) l W):∃ xs:List Value,xs.length=l.length*2∧(∀ j u,xs[j]? = some u→W.cell? ⟨b,off+j,none⟩=some u)∧ReqXs B l xs W∧∀ u∈xs,u.oneCell'=true:=by
 obtain⟨xs,hx1,hx2,hx3⟩:=zgb h
 refine⟨xs,hx1,hx2,hx3,fun u hu=>?_⟩
 obtain⟨j,hj,rfl⟩:=List.mem_iff_getElem.1 hu
 obtain⟨r,h1,h2,h3⟩:=hx3 (j / 2) l[j / 2] (by simp<;>omega)
 obtain⟨_,_,rfl,_⟩:=h3
 rcases Nat.mod_two_eq_zero_or_one j with hm | hm
 ·have e2:j / 2*2=j:=by omega
  rw [e2,ze hj]at h1
  rw [Option.some.inj h1];rfl
 ·have e2:j / 2*2+1=j:=by omega
  rw [e2,ze hj]at h2
  rw [Option.some.inj h2];rfl
theorem zgf {B:Nat}{l:List ReqL}{W:World}{v:Value}(h:ReqsOf B v l W):∃ news,Src prog 2 80 v l.length news W∧ReqXs B l news W:=by
 have h2:=h
 obtain⟨ao,cap,rfl,hh⟩:=h
 by_cases h0:l=[]
 ·subst h0
  cases ao with
  | none=>exact⟨[],Src.ofNil _ underlying80 cap,fun i q hq=>by simp at hq⟩
  | some a=>exact⟨[],Src.ofSlice _ underlying80 a 0 cap [] rfl (fun j u hu=>by simp at hu) (fun _ h=>by cases h),fun i q hq=>by simp at hq⟩
 ·have hp:0<l.length:=List.length_pos_iff.2 h0
  obtain⟨b,off,_,rfl,_⟩:=hh 0 l[0] (by simp [hp])
  obtain⟨xs,hx1,hx2,hx3,hx4⟩:=zca h2
  exact⟨xs,Src.ofSlice _ underlying80 ⟨b,off,none⟩ l.length cap xs hx1 (fun j u hu=>by rw [Addr.add_lit];exact hx2 j u hu) hx4,hx3⟩
theorem zkz {W:World}{B:Nat}{v:Value}{l:List ReqL}{xs:List Value}(h:SegC W B 2 v l.length xs){B0:Nat}{W0:World}(hx:ReqXs B0 l xs W0){i:Nat}(hi:i<l.length) :
  ∃ g off cap r,v=.slice (some ⟨g,off,none⟩) l.length cap∧g<W.heap.size∧W.cell? ⟨g,off+i*2,none⟩=some (.string (l.getD i default).1)∧W.cell? ⟨g,off+i*2+1,none⟩=some r∧SpansOf B0 r (l.getD i default).2 W0:=by
 rcases h.val with ⟨ao,_,h0⟩ | ⟨g,off,cap,rfl,_,_,_,hg,h5,_⟩
 ·omega
 ·obtain⟨r,a,b,c⟩:=hx i (l.getD i default) (by rw [zg,ze hi];rfl)
  refine⟨g,off,cap+1,r,rfl,hg,(h5 (i*2) (by omega)).trans a,?_,c⟩
  rw [Nat.add_assoc]
  exact(h5 (i*2+1) (by omega)).trans b
def reqsL (X:List RelL)(s:List SelL):List ReqL:=s.flatMap (reqsOf X)
theorem zga (X:List RelL)(s:List SelL)(y:SelL):reqsL X (s++[y])=reqsL X s++reqsOf X y:=by
 unfold reqsL
 rw [List.flatMap_append]
 simp
theorem zhj {X:List RelL}{s:List SelL}(h:checkX X≠0∨¬ incrS s):consV X s=1:=by unfold consV;rw [if_pos h]
theorem zhk {X:List RelL}{s:List SelL}(h1:checkX X=0)(h2:incrS s)(h3:∃ y∈s,findR X y=none):consV X s=6:=by
 unfold consV
 rw [if_neg (fun h=>h.elim (fun e=>e h1) (fun e=>e h2)),if_pos h3]
theorem zjw {X:List RelL}{s:List SelL}(h1:checkX X=0)(h2:incrS s)(h3:∀ y∈s,(findR X y).isSome=true){q:ReqL}(hq:q∈reqsL X s)(hm:metB s q=false):consV X s=17:=by
 obtain⟨y,hy,hq⟩:=List.mem_flatMap.1 hq
 unfold consV
 rw [if_neg (fun h=>h.elim (fun e=>e h1) (fun e=>e h2)),if_neg (fun⟨y,hy,e⟩=>by have:=h3 y hy;rw [e]at this;cases this),if_pos ⟨y,hy,q,hq,hm⟩]
theorem zjx {X:List RelL}{s:List SelL}(h1:checkX X=0)(h2:incrS s)(h3:∀ y∈s,(findR X y).isSome=true)(h4:∀ q∈reqsL X s,metB s q=true):consV X s=0:=by
 unfold consV
 rw [if_neg (fun h=>h.elim (fun e=>e h1) (fun e=>e h2)),if_neg (fun⟨y,hy,e⟩=>by have:=h3 y hy;rw [e]at this;cases this),if_neg]
 rintro⟨y,hy,q,hq,hm⟩
 rw [h4 q (List.mem_flatMap.2 ⟨y,hy,hq⟩)]at hm
 cases hm
theorem z7i (v iv sv:Value)(X:List RelL)(s:List SelL)(w:World)(hX:X.length≤1000000)(hq:∀ x∈X,RelBd x)(hR:RelsOf w.heap.size v X w)(hs:s.length≤64)(hS:SelsOf w.heap.size sv s w) :
  Calls prog 14 #[.agg #[v,iv],sv] w fun e w'=>e=.returned (.int .i64 (consV X s))∧Below w.heap.size w w':=by
 obtain⟨va,vn,vc,rfl⟩:∃ a n c,v=.slice a n c:=by obtain⟨a,c,_,e,_⟩:=hR.rv;exact⟨_,_,_,e⟩
 obtain⟨v,hv0⟩:∃ v,Value.slice va vn vc=v:=⟨_,rfl⟩
 rw [hv0]at hR ⊢
 obtain⟨so,sc,rfl⟩:=zo hS
 have HC:=zh (fun W (hb:Below w.heap.size w W)=>z5s v iv X W hX hq ((hR.below hb (zq _)).mono hb.size))
 have HF:=zh (fun y W (hb:Below w.heap.size w W)=>z7h v iv X y W w.heap.size hb.size hX hq (hR.below hb (zq _)))
 have HIC:=zh (fun W (hb:Below w.heap.size w W)=>zc5 (.slice so s.length sc) s W (by omega) ((hS.below hb (zq _)).mono hb.size))
 have HS:=zh hS
 have HQ:=zh hq
 clear hR hq hS
 obtain⟨CV,hCV⟩:∃ CV,consV X s=CV:=⟨_,rfl⟩
 have HV1:Hid (checkX X≠0∨¬ incrS s→CV=1):=zh (fun h=>by rw [← hCV];exact zhj h)
 have HV6:Hid (checkX X=0→incrS s→(∃ y∈s,findR X y=none)→CV=6):=zh (fun h1 h2 h3=>by rw [← hCV];exact zhk h1 h2 h3)
 have HV17:Hid (checkX X=0→incrS s→(∀ y∈s,(findR X y).isSome=true)→∀ q∈reqsL X s,metB s q=false→CV=17):=zh (fun h1 h2 h3 q hq hm=>by rw [← hCV];exact zjw h1 h2 h3 hq hm)
 have HV0:Hid (checkX X=0→incrS s→(∀ y∈s,(findR X y).isSome=true)→(∀ q∈reqsL X s,metB s q=true)→CV=0):=zh (fun h1 h2 h3 h4=>by rw [← hCV];exact zjx h1 h2 h3 h4)
 rw [hCV]
 clear hCV
 have HB0:=zh (belQ w (.cells #[v,iv] 25))
 have HI0:=zh (zn w (.cells #[v,iv] 25))
 go_enter func14,ntmps14
 go_upto_region 1 with fail
 generalize w.alloc (.cells #[v,iv] 25)=W at *
 have c0:=blk0 HI0.out
 have c1:=blk1 HI0.out
 go_wp2_with fail
 refine(HC.out _ HB0.out).mono ?_
 rintro e w1 ⟨rfl,hb1⟩
 have HB1:=zj HB0 hb1
 have HI1:=zh ((hb1.block w.heap.size (zb HI0.out)).trans HI0.out)
 clear hb1 c0 c1 HB0 HI0 HC
 obtain⟨E,hE⟩:∃ E,checkX X=E:=⟨_,rfl⟩
 have HE:=zh hE
 rw [hE]
 clear hE
 by_cases h0:E=0
 case neg =>
  have h0b:(E != 0)=true:=by simpa using h0
  have HVV:=zh (HV1.out (.inl (by rw [HE.out];exact h0)))
  go_wp2_with fail
  go_ret
  exact⟨by rw [HVV.out];rfl,HB1.out⟩
 subst h0
 go_wp2_with fail
 refine(HIC.out _ HB1.out).mono ?_
 rintro e w2 ⟨ib,rfl,hib,hb2⟩
 have HB2:=zj HB1 hb2
 have HI2:=zh ((hb2.block w.heap.size (zb HI1.out)).trans HI1.out)
 have HIB:=zh hib
 clear hb2 hib HB1 HI1 HIC
 cases ib with
 | false =>
  have HVV:=zh (HV1.out (.inr (fun h=>by have:=HIB.out.2 h;cases this)))
  go_wp2_with fail
  go_ret
  exact⟨by rw [HVV.out];rfl,HB2.out⟩
 | true =>
 have HIN:=zh (HIB.out.1 rfl)
 clear HIB HV1
 have hbq:=belQ w2 (.cells #[] 89)
 have HB3:=zj HB2 hbq
 have HI3:=zh ((hbq.block w.heap.size (zb HI2.out)).trans HI2.out)
 go_upto_region 4 with fail
 generalize w2.alloc (.cells #[] 89)=w3 at *
 have hz3:w2.heap.size≤w3.heap.size:=hbq.size
 have hwB:=(zb HI2.out)
 generalize w2.heap.size=B at *
 clear hbq HI2 HB2
 obtain⟨i0,hi0',hz0,hz1,hz2⟩:=info_parts zba
 go_wp2_with fail
 go_loopw [5,6] (fun ov p wr=>Hid (∃ (k:Nat) (xs:List Value),k≤s.length∧p=.int .i64 (k:Int)∧SegC wr B 2 ov (reqsL X (s.take k)).length xs∧ReqXs w.heap.size (reqsL X (s.take k)) xs wr∧(reqsL X (s.take k)).length≤k*1000000∧(∀ y∈s.take k,(findR X y).isSome=true)∧Below B w3 wr)) (fun _ p _=>s.length - (intOf p).toNat)
 case atStart=>exact zh ⟨0,[],Nat.zero_le _,rfl,SegC.nil _ _ _ _,fun i q hq=>by simp [reqsL]at hq,by simp [reqsL],fun y hy=>(by cases hy),Below.refl _ _⟩
 case round =>
  obtain⟨k,xs,hk,rfl,hsg,hxs,hnl,hfd,hb⟩:=hrel.out
  have HSG:=zh hsg
  have HXS:=zh hxs
  have HFD:=zh hfd
  have HBK:=zh hb
  obtain⟨oa,oc,rfl⟩:=hsg.shape
  clear hrel hsg hxs hfd hb
  have hsz:=HBK.out.size
  have hBwr:B≤wr.heap.size:=by omega
  have HBW:=zh (HB3.out.trans (HBK.out.mono (Nat.le_of_lt hwB)))
  by_cases hlt2:k<s.length
  case pos =>
   obtain⟨b,off,rfl,hbl,d0,d1,d2,d3⟩:=HS.out.at hlt2
   have d0:=(HBW.out.cell (p:=⟨b,off+k*4,none⟩) hbl).trans d0
   have d1:=(HBW.out.cell (p:=⟨b,off+k*4+1,none⟩) hbl).trans d1
   have d2:=(HBW.out.cell (p:=⟨b,off+k*4+2,none⟩) hbl).trans d2
   have d3:=(HBW.out.cell (p:=⟨b,off+k*4+3,none⟩) hbl).trans d3
   have HTK:Hid (s.take (k+1)=s.take k++[s.getD k default]):=zh (by rw [zs hlt2,zg,ze hlt2];rfl)
   have HYM:Hid (s.getD k default∈s):=zh (by rw [zg,ze hlt2];exact List.getElem_mem hlt2)
   obtain⟨y,hyk⟩:∃ y,s.getD k default=y:=⟨_,rfl⟩
   rw [hyk]at d0 d1 d2 d3 HTK HYM
   clear hyk
   have hbw:b<wr.heap.size:=Nat.lt_of_lt_of_le hbl HBW.out.size
   have hi9:=(HBK.out.block w.heap.size hwB).trans HI3.out
   have hi8:=(zb hi9)
   have c0:wr.cell? ⟨w.heap.size,0,none⟩=some v:=blk0 hi9
   have c1:wr.cell? ⟨w.heap.size,1,none⟩=some iv:=blk1 hi9
   clear hi9
   obtain⟨o,ho⟩:∃ o,findX X y=o:=⟨_,rfl⟩
   have HFY:=zh (fun W hb=>HF.out y W hb)
   rw [ho]at HFY
   have HO:=zh (show findR X y=o by rw [← ho];unfold findX;rw [if_pos HE.out])
   clear ho
   have hlt3:(k:Int)<(s.length:Int):=by omega
   have hk0:(0:Int)≤(k:Int):=by omega
   have HSS:Hid (∀ W':World,Below wr.heap.size wr W'→HeldS ⟨w.heap.size,0,none⟩ ⟨w.heap.size,1,none⟩ ⟨b,off+k*4,none⟩ ⟨b,off+k*4+1,none⟩ ⟨b,off+k*4+2,none⟩ ⟨b,off+k*4+3,none⟩ v iv (.string y.1) (intC y.2.1) (intC y.2.2.1) (intC y.2.2.2) W'):=zh (fun W' hb=>⟨(hb.cell (p:=⟨w.heap.size,0,none⟩) hi8).trans c0,(hb.cell (p:=⟨w.heap.size,1,none⟩) hi8).trans c1,(hb.cell (p:=⟨b,_,none⟩) hbw).trans d0,(hb.cell (p:=⟨b,_,none⟩) hbw).trans d1,(hb.cell (p:=⟨b,_,none⟩) hbw).trans d2,(hb.cell (p:=⟨b,_,none⟩) hbw).trans d3⟩)
   obtain⟨x,hx⟩:∃ x,o.getD default=x:=⟨_,rfl⟩
   have HX:=zh hx
   obtain⟨ob,hob⟩:∃ ob,o.isSome=ob:=⟨_,rfl⟩
   have HOB:=zh hob
   unfold FindR2 at HFY
   rw [hx,hob]at HFY
   clear hx hob d0 d1 d2 d3 c0 c1
   simp only [relC_at]at HFY
   go_upto_region 7 with fail
   go_cut [7,8,25,37,38,39] (fun s8 s9 s28 s40 s41 s42 wx=>∃ (g8:Nat) (ra:Option Addr) (rc:Nat),s8=.pointer (some ⟨g8,0,none⟩)∧s9=.bool ob∧s28=.tuple #[.agg (relC x (.slice ra x.reqs.length rc)),.bool ob]∧s40=.tuple #[.agg (relC x (.slice ra x.reqs.length rc)),.bool ob]∧s41=.agg (relC x (.slice ra x.reqs.length rc))∧s42=.bool ob ∧
    Hid (BoxR wx g8 x (.slice ra x.reqs.length rc)∧ReqsOf w.heap.size (.slice ra x.reqs.length rc) x.reqs wx∧Below wr.heap.size wr wx))
   case first =>
    refine wp_region_noPanic ?_
    refine wp_region_held_drew (S:=HeldS ⟨w.heap.size,0,none⟩ ⟨w.heap.size,1,none⟩ ⟨b,off+k*4,none⟩ ⟨b,off+k*4+1,none⟩ ⟨b,off+k*4+2,none⟩ ⟨b,off+k*4+3,none⟩ v iv (.string y.1) (intC y.2.1) (intC y.2.2.1) (intC y.2.2.2)) (by kernel_rfl) (HSS.out _ (Below.refl _ _).drew) (fun hS0=>?_)
    refine zt 0 _ rfl ?_;simp only [zl1];refine zt 1 _ rfl ?_;simp only [zl1];refine zt 2 _ rfl ?_;simp only [zl1];refine zt 3 _ rfl ?_;simp only [zl1];refine zt 4 _ rfl ?_;simp only [zl1];refine zt 5 _ rfl ?_;simp only [zl1];refine zt 6 _ rfl ?_;simp only [zl1];refine zt 7 _ rfl ?_;simp only [zl1];refine zt 8 _ rfl ?_;simp only [zl1];refine zt 9 _ rfl ?_;simp only [zl1];refine zt 10 _ rfl ?_;simp only [zl1]
    refine wpAnyH_ready (rs:=[11,15]) (by kernel_rfl) (by simp) (AllReadyH.cons rfl (fun K hK=>?_) (AllReadyH.cons rfl (fun K hK=>?_) AllReadyH.nil))
    ·go_simp
     refine(HFY.out _ HBW.out.drew).mono ?_
     rintro e w3 ⟨r',rfl,hrr,hb3⟩
     have HRR:=zh hrr
     obtain⟨ra,rc,rfl,_⟩:=hrr
     have hb4:Below wr.heap.size wr w3:=(Below.refl _ _).drew.trans (show Below wr.heap.size wr.drew w3 from hb3.mono (zq _))
     have HB4:=zh hb4
     refine hK.out _ _ (HSS.out _ hb4) (fun hS1=>?_)
     clear hK K hS0 hb3 hb4
     (try simp only [zl1])
     refine zt 12 _ rfl ?_;simp only [zl1];refine zt 13 _ rfl ?_;simp only [zl1];refine zt 14 _ rfl ?_;simp only [zl1]
     refine zr 15 rfl fun K hK=>?_
     go_simp
     have HB5:=zh (HB4.out.trans ((belQ w3 (.cells #[.string ⟨#[]⟩,.int .i64 0,.int .i64 0,.int .i64 0,.slice none 0 0,.string ⟨#[]⟩,.string ⟨#[]⟩,.string ⟨#[]⟩,.bool false] 82)).mono HB4.out.size))
     have HZ5:=zh (zn w3 (.cells #[.string ⟨#[]⟩,.int .i64 0,.int .i64 0,.int .i64 0,.slice none 0 0,.string ⟨#[]⟩,.string ⟨#[]⟩,.string ⟨#[]⟩,.bool false] 82))
     have HR5:=zh (HRR.out.below (belQ w3 (.cells #[.string ⟨#[]⟩,.int .i64 0,.int .i64 0,.int .i64 0,.slice none 0 0,.string ⟨#[]⟩,.string ⟨#[]⟩,.string ⟨#[]⟩,.bool false] 82)) (Nat.le_trans HBW.out.size HB4.out.size))
     refine hK.out _ _ (HSS.out _ HB5.out) (fun hS2=>?_)
     clear hK K hS1
     (try simp only [zl1])
     generalize hg8:w3.heap.size=g8 at *
     have hg8l:wr.heap.size≤g8:=by have:=HB4.out.size;omega
     generalize w3.alloc (.cells #[.string ⟨#[]⟩,.int .i64 0,.int .i64 0,.int .i64 0,.slice none 0 0,.string ⟨#[]⟩,.string ⟨#[]⟩,.string ⟨#[]⟩,.bool false] 82)=W5 at *
     have hz5:=HZ5.out
     have b0:W5.cell? ⟨g8,0,none⟩=some (.string ⟨#[]⟩):=zw _ _ 0 _ _ _ hz5
     have b1:W5.cell? ⟨g8,1,none⟩=some (.int .i64 0):=zw _ _ 1 _ _ _ hz5
     have b2:W5.cell? ⟨g8,2,none⟩=some (.int .i64 0):=zw _ _ 2 _ _ _ hz5
     have b3:W5.cell? ⟨g8,3,none⟩=some (.int .i64 0):=zw _ _ 3 _ _ _ hz5
     have b4:W5.cell? ⟨g8,4,none⟩=some (.slice none 0 0):=zw _ _ 4 _ _ _ hz5
     have b5:W5.cell? ⟨g8,5,none⟩=some (.string ⟨#[]⟩):=zw _ _ 5 _ _ _ hz5
     have b6:W5.cell? ⟨g8,6,none⟩=some (.string ⟨#[]⟩):=zw _ _ 6 _ _ _ hz5
     have b7:W5.cell? ⟨g8,7,none⟩=some (.string ⟨#[]⟩):=zw _ _ 7 _ _ _ hz5
     have b8:W5.cell? ⟨g8,8,none⟩=some (.bool false):=zw _ _ 8 _ _ _ hz5
     have F:∀ j,W5.frozen? ⟨g8,j,none⟩=false:=fun j=>frozen_of_row _ _ j _ _ hz5
     have f0:=F 0
     have f1:=F 1
     have f2:=F 2
     have f3:=F 3
     have f4:=F 4
     have f5:=F 5
     have f6:=F 6
     have f7:=F 7
     have f8:=F 8
     clear F
     have hgr:=z11 W5 (g8) x (.slice ra x.reqs.length rc)
     have hbx:BoxR (setRel W5 (g8) x (.slice ra x.reqs.length rc)) (g8) x (.slice ra x.reqs.length rc):=z1h x (.slice ra x.reqs.length rc) hz5
     have hbl:Below wr.heap.size wr (setRel W5 (g8) x (.slice ra x.reqs.length rc)):=HB5.out.grown hgr HB5.out.size (fun b hb=>by cases hb;omega)
     have hrl:ReqsOf w.heap.size (.slice ra x.reqs.length rc) x.reqs (setRel W5 (g8) x (.slice ra x.reqs.length rc)):=HR5.out.below (B':=w.heap.size) ((Below.refl _ _).grown hgr (Nat.le_trans HBW.out.size HB5.out.size) (fun b hb=>by cases hb;have:=HBW.out.size;omega)) (zq _)
     have hss:=HSS.out _ hbl
     have HBX:=zh (And.intro hbx (And.intro hrl hbl))
     unfold setRel at HBX hss
     clear hgr hbx hbl hrl hz5
     refine zr 16 rfl fun K hK=>?_
     go_simp
     refine hK.out _ _ hss (fun hS9=>?_)
     clear hK K hss hS2
     (try simp only [zl1])
     refine zt 17 _ rfl ?_;simp only [zl1]
     refine wpAnyH_done (by kernel_rfl) ?_ _
     refine NoPanic.normal ?_
     go_wp2_with fail
     go_meet
     exact⟨_,ra,rc,rfl,rfl,rfl,rfl,rfl,rfl,HBX⟩
    ·go_simp
     have HB5:Hid (Below wr.heap.size wr ((wr.alloc (.cells #[.string ⟨#[]⟩,.int .i64 0,.int .i64 0,.int .i64 0,.slice none 0 0,.string ⟨#[]⟩,.string ⟨#[]⟩,.string ⟨#[]⟩,.bool false] 82)).drew)):=zh (belQ wr (.cells #[.string ⟨#[]⟩,.int .i64 0,.int .i64 0,.int .i64 0,.slice none 0 0,.string ⟨#[]⟩,.string ⟨#[]⟩,.string ⟨#[]⟩,.bool false] 82)).drew
     refine hK.out _ _ (HSS.out _ HB5.out) (fun hS1=>?_)
     clear hK K hS0
     (try simp only [zl1])
     refine zr 11 rfl fun K hK=>?_
     go_simp
     refine(HFY.out _ (HBW.out.trans (HB5.out.mono HBW.out.size))).mono ?_
     rintro e W5 ⟨r',rfl,hrr,hb3⟩
     have HR5:=zh hrr
     obtain⟨ra,rc,rfl,_⟩:=hrr
     have HB4:=zj HB5 hb3
     have hz5:=(hb3.block wr.heap.size (by simp)).trans (show((wr.alloc (.cells #[.string ⟨#[]⟩,.int .i64 0,.int .i64 0,.int .i64 0,.slice none 0 0,.string ⟨#[]⟩,.string ⟨#[]⟩,.string ⟨#[]⟩,.bool false] 82)).drew).heap[wr.heap.size]? = _ from zn wr (.cells #[.string ⟨#[]⟩,.int .i64 0,.int .i64 0,.int .i64 0,.slice none 0 0,.string ⟨#[]⟩,.string ⟨#[]⟩,.string ⟨#[]⟩,.bool false] 82))
     refine hK.out _ _ (HSS.out _ HB4.out) (fun hS2=>?_)
     clear hK K hS1 hb3 HB5
     (try simp only [zl1])
     refine zt 12 _ rfl ?_;simp only [zl1];refine zt 13 _ rfl ?_;simp only [zl1];refine zt 14 _ rfl ?_;simp only [zl1]
     have hg8l:wr.heap.size≤wr.heap.size:=zq _
     have b0:W5.cell? ⟨wr.heap.size,0,none⟩=some (.string ⟨#[]⟩):=zw _ _ 0 _ _ _ hz5
     have b1:W5.cell? ⟨wr.heap.size,1,none⟩=some (.int .i64 0):=zw _ _ 1 _ _ _ hz5
     have b2:W5.cell? ⟨wr.heap.size,2,none⟩=some (.int .i64 0):=zw _ _ 2 _ _ _ hz5
     have b3:W5.cell? ⟨wr.heap.size,3,none⟩=some (.int .i64 0):=zw _ _ 3 _ _ _ hz5
     have b4:W5.cell? ⟨wr.heap.size,4,none⟩=some (.slice none 0 0):=zw _ _ 4 _ _ _ hz5
     have b5:W5.cell? ⟨wr.heap.size,5,none⟩=some (.string ⟨#[]⟩):=zw _ _ 5 _ _ _ hz5
     have b6:W5.cell? ⟨wr.heap.size,6,none⟩=some (.string ⟨#[]⟩):=zw _ _ 6 _ _ _ hz5
     have b7:W5.cell? ⟨wr.heap.size,7,none⟩=some (.string ⟨#[]⟩):=zw _ _ 7 _ _ _ hz5
     have b8:W5.cell? ⟨wr.heap.size,8,none⟩=some (.bool false):=zw _ _ 8 _ _ _ hz5
     have F:∀ j,W5.frozen? ⟨wr.heap.size,j,none⟩=false:=fun j=>frozen_of_row _ _ j _ _ hz5
     have f0:=F 0
     have f1:=F 1
     have f2:=F 2
     have f3:=F 3
     have f4:=F 4
     have f5:=F 5
     have f6:=F 6
     have f7:=F 7
     have f8:=F 8
     clear F
     have hgr:=z11 W5 (wr.heap.size) x (.slice ra x.reqs.length rc)
     have hbx:BoxR (setRel W5 (wr.heap.size) x (.slice ra x.reqs.length rc)) (wr.heap.size) x (.slice ra x.reqs.length rc):=z1h x (.slice ra x.reqs.length rc) hz5
     have hbl:Below wr.heap.size wr (setRel W5 (wr.heap.size) x (.slice ra x.reqs.length rc)):=HB4.out.grown hgr HB4.out.size (fun b hb=>by cases hb;omega)
     have hrl:ReqsOf w.heap.size (.slice ra x.reqs.length rc) x.reqs (setRel W5 (wr.heap.size) x (.slice ra x.reqs.length rc)):=HR5.out.below (B':=w.heap.size) ((Below.refl _ _).grown hgr (Nat.le_trans HBW.out.size HB4.out.size) (fun b hb=>by cases hb;have:=HBW.out.size;omega)) (zq _)
     have hss:=HSS.out _ hbl
     have HBX:=zh (And.intro hbx (And.intro hrl hbl))
     unfold setRel at HBX hss
     clear hgr hbx hbl hrl hz5
     refine zr 16 rfl fun K hK=>?_
     go_simp
     refine hK.out _ _ hss (fun hS9=>?_)
     clear hK K hss hS2
     (try simp only [zl1])
     refine zt 17 _ rfl ?_;simp only [zl1]
     refine wpAnyH_done (by kernel_rfl) ?_ _
     refine NoPanic.normal ?_
     go_wp2_with fail
     go_meet
     exact⟨_,ra,rc,rfl,rfl,rfl,rfl,rfl,rfl,HBX⟩
   case rest =>
    obtain⟨g8,ra,rc,rfl,rfl,rfl,rfl,rfl,rfl,HBX⟩:=hcut
    simp only [relC_at]
    have HBC:=zh (HBW.out.trans (HBX.out.2.2.mono HBW.out.size))
    cases ob with
    | false =>
     have HVV:=zh (HV6.out HE.out HIN.out ⟨y,HYM.out,by
      rw [HO.out]
      cases ho:o with
      | none=>rfl
      | some z=>have:=HOB.out;rw [ho]at this;cases this⟩)
     go_wp2_with fail
     go_ret
     exact⟨by rw [HVV.out];rfl,HBC.out⟩
    | true =>
     have HXF:Hid (findR X y=some x):=zh (by
      rw [HO.out,← HX.out]
      cases ho:o with
      | none=>have:=HOB.out;rw [ho]at this;cases this
      | some z=>rfl)
     have HXB:Hid (x.reqs.length≤1000000):=zh (by
      obtain⟨i,hi,e,_⟩:=z1d HXF.out
      rw [zg,ze hi]at e
      exact(HQ.out x (by rw [← e];exact List.getElem_mem hi)).len)
     have HRO:Hid (reqsOf X y=x.reqs):=zh (by unfold reqsOf;rw [HXF.out])
     have HLS:Hid (reqsL X (s.take (k+1))=reqsL X (s.take k)++x.reqs):=zh (by rw [HTK.out,zga,HRO.out])
     have HFD2:Hid (∀ z∈s.take (k+1),(findR X z).isSome=true):=zh (fun z hz=>by
      rw [HTK.out]at hz
      rcases List.mem_append.1 hz with hz | hz
      ·exact HFD.out z hz
      ·rw [List.mem_singleton.1 hz,HXF.out];rfl)
     have hk4:wc.cell? ⟨g8,4,none⟩=some (.slice ra x.reqs.length rc):=zw _ _ 4 _ _ _ HBX.out.1
     have HSC:=zh (HSG.out.far HBX.out.2.2.size (fun b hb=>HBX.out.2.2.block b (HSG.out.lt b hb).2))
     have HXC:=zh (HXS.out.below HBX.out.2.2 (HBW.out.size))
     have HBKC:=zh (HBK.out.trans (HBX.out.2.2.mono hBwr))
     have hBc:B≤wc.heap.size:=by have:=HBKC.out.size;omega
     obtain⟨news,hsrc,hels⟩:=zgf HBX.out.2.1
     have HSRC:=zh hsrc
     have HELS:=zh hels
     have hxb:=HXB.out
     generalize x.reqs=rl at *
     generalize reqsL X (s.take k)=fl at *
     clear hsrc hels HSG HXS HBW HX HO HOB HFY HSS HTK HFD HRO HXF
     go_wp2_with (at_builtin;refine z54 _ rfl _ _ 80 80 rfl 89 i0 _ 40 2 underlying80 hi0' hz0 hz1 hz2 rfl B (.slice oa fl.length oc) fl.length xs (by rfl) HSC.out hBc rl.length news HSRC.out (by unfold maxLen;omega) (by omega) ?_;intro v12 W12 h12 g12 hb12;have H12:=zh h12;have G12:=zh g12;obtain⟨va12,vc12,rfl⟩:=h12.shape;clear h12 g12 hb12)
     all_goals
      have HBF:Hid (Below B w3 W12):=zh (HBKC.out.grown G12.out hBc (fun b hb=>(HSC.out.lt b hb).1))
      have HB12:Hid (Below w.heap.size wc W12):=zh ((Below.refl _ _).grown G12.out HBC.out.size (fun b hb=>by
       have:=(HSC.out.lt b hb).1
       omega))
      have HXF2:Hid (ReqXs w.heap.size (fl++rl) (xs++news) W12):=zh (ReqXs.joinW (HXC.out.below HB12.out (zq _)) HSC.out.len (HELS.out.below HB12.out (zq _)))
      refine⟨zh ⟨k+1,xs++news,hlt2,by go_num,by rw [HLS.out,List.length_append];exact H12.out,by rw [HLS.out];exact HXF2.out,by rw [HLS.out,List.length_append];omega,HFD2.out,HBF.out⟩,?_⟩
      simp [intOf];omega
  case neg =>
   have hTS:s.take k=s:=List.take_of_length_le (Nat.le_of_not_lt hlt2)
   rw [hTS]at HSG HXS HFD hnl
   rw [hTS]
   have HVV17:=zh (HV17.out HE.out HIN.out HFD.out)
   have HVV0:=zh (HV0.out HE.out HIN.out HFD.out)
   have HVL:Hid (∀ y∈s,validB y.2.1 y.2.2.1 y.2.2.2=true):=zh (fun y hy=>z0y HE.out (HFD.out y hy))
   have HLQ:Hid (∀ q∈reqsL X s,q.2.length≤1000000):=zh (fun q hq=>by
    obtain⟨y,hy,hq⟩:=List.mem_flatMap.1 hq
    unfold reqsOf at hq
    cases hf:findR X y with
    | none=>rw [hf]at hq;cases hq
    | some x =>
     rw [hf]at hq
     obtain⟨i,hi,e,_⟩:=z1d hf
     rw [zg,ze hi]at e
     exact((HQ.out x (by rw [← e];exact List.getElem_mem hi)).reqs q hq).2)
   have hnl2:(reqsL X s).length≤64000000:=by omega
   clear hTS hnl HFD HV17 HV0 HV6 HF HQ
   generalize reqsL X s=L at *
   go_wp2_with fail
   obtain⟨wo,hwo⟩:∃ wo,wr=wo:=⟨_,rfl⟩
   replace hwo:=hwo.symm
   subst hwo
   go_loopw [9] (fun p wr=>Hid (∃ (j:Nat),j≤L.length∧p=.int .i64 (j:Int)∧(∀ i,i<j→metB s (L.getD i default)=true)∧Below wo.heap.size wo wr)) (fun p _=>L.length - (intOf p).toNat)
   case atStart=>exact zh ⟨0,Nat.zero_le _,rfl,fun i hi=>absurd hi (Nat.not_lt_zero i),Below.refl _ _⟩
   case round =>
    obtain⟨j,hj,rfl,hm,hb⟩:=hrel.out
    have HM:=zh hm
    have HBJ:=zh hb
    have HBT:=zj HBW hb
    clear hrel hm hb
    by_cases hjl:j<L.length
    case neg =>
     have HVV:=zh (HVV0.out (fun q hq=>by
      obtain⟨i,hi,rfl⟩:=List.mem_iff_getElem.1 hq
      have:=HM.out i (by omega)
      rwa [zg,ze hi]at this))
     go_wp2_with fail
     go_ret
     exact⟨by rw [HVV.out];rfl,HBT.out⟩
    obtain⟨g,off,cap,r,hoe,hgl,d0,d1,hsp⟩:=zkz HSG.out HXS.out hjl
    injection hoe with hoe1 hoe2 hoe3
    subst hoe1
    subst hoe3
    have hj0:(0:Int)≤(j:Int):=Int.natCast_nonneg j
    have hjz:(j:Int)<(L.length:Int):=Int.ofNat_lt.2 hjl
    have e0:=(HBJ.out.cell (p:=⟨g,off+j*2,none⟩) hgl).trans d0
    have e1:=(HBJ.out.cell (p:=⟨g,off+j*2+1,none⟩) hgl).trans d1
    have HQM:Hid (L.getD j default∈L):=zh (by rw [zg,ze hjl];exact List.getElem_mem hjl)
    have hq9:=HLQ.out _ HQM.out
    have HSP:=zh ((hsp.below HBJ.out (HBW.out.size)).mono (HBT.out.size))
    obtain⟨ra,rc,rfl⟩:=zo hsp
    have HV17J:=zh (HVV17.out _ HQM.out)
    have HMJ:Hid (∀ b,metB s (L.getD j default)=b→b=true→∀ i,i<j+1→metB s (L.getD i default)=true):=zh (fun b hb h i hi=>by
     by_cases hij:i<j
     ·exact HM.out i hij
     ·obtain rfl:i=j:=by omega
      rw [hb,h])
    have HSA:=zh (zf6 (L.getD j default) (.slice ra (L.getD j default).2.length rc) (.slice so s.length sc) s wr hq9 (by omega) HVL.out HSP.out ((HS.out.below HBT.out (zq _)).mono HBT.out.size))
    generalize L.getD j default=q at *
    obtain⟨mb,hmb⟩:∃ mb,metB s q=mb:=⟨_,rfl⟩
    rw [hmb]at HSA HV17J
    have HMJ2:=zh (HMJ.out mb hmb)
    clear d0 d1 hsp hmb HMJ HM
    go_wp2_with fail
    refine HSA.out.mono ?_
    rintro e w5 ⟨rfl,hb5⟩
    have HBT5:=zj HBT hb5
    have HBJ5:=zj HBJ hb5
    clear hb5 HSA e0 e1
    cases mb with
    | false =>
     have HVV:=zh (HV17J.out rfl)
     go_wp2_with fail
     go_ret
     exact⟨by rw [HVV.out];rfl,HBT5.out⟩
    | true =>
     have HM2:=zh (HMJ2.out rfl)
     go_wp2_with fail
     all_goals
      refine⟨zh ⟨j+1,hjl,by go_num,HM2.out,HBJ5.out⟩,?_⟩
      simp [intOf];omega
end Go.Proofs.YtapbhoodgnmnkaaGreatDoor
