/- Laws and contracts. -/
import Derived.Test.YtapbhoodgnmnkaaGreatDoorJX
set_option linter.unusedVariables false
set_option linter.unusedSimpArgs false
set_option maxRecDepth 100000
set_option maxHeartbeats 32000000
namespace Go.Proofs.YtapbhoodgnmnkaaGreatDoor
open Go.Proofs.Tryz Go Go.RowKit
def leftM (f t:List SelL)(i k:Nat):List ByteArray:=mergeU ((f.drop i).map (·.1)) ((t.drop k).map (·.1))
theorem zbg (f t:List SelL){i k:Nat}(hi:f.length≤i)(hk:t.length≤k):leftM f t i k=[]:=by
 unfold leftM
 rw [List.drop_of_length_le hi,List.drop_of_length_le hk]
 exact z1e _
theorem z2f {s:List SelL}{i:Nat}(h:i<s.length):(s.drop i).map (·.1)=s[i].1::(s.drop (i+1)).map (·.1):=by
 rw [List.drop_eq_getElem_cons h]
 rfl
theorem zi1 {f t:List SelL}{i k:Nat}(hi:i<f.length)(hk:t.length≤k):leftM f t i k=f[i].1::leftM f t (i+1) k:=by
 unfold leftM
 rw [List.drop_of_length_le hk,z2f hi]
 rw [List.map_nil,z23,z23]
theorem zi2 {f t:List SelL}{i k:Nat}(hi:f.length≤i)(hk:k<t.length):leftM f t i k=t[k].1::leftM f t i (k+1):=by
 unfold leftM
 rw [List.drop_of_length_le hi,z2f hk,List.map_nil,z1e,z1e]
theorem zep {f t:List SelL}{i k:Nat}(hi:i<f.length)(hk:k<t.length)(h:f[i].1=t[k].1):leftM f t i k=f[i].1::leftM f t (i+1) (k+1):=by
 unfold leftM
 rw [z2f hi,z2f hk,z10,if_pos h]
theorem zer {f t:List SelL}{i k:Nat}(hi:i<f.length)(hk:k<t.length)(hne:f[i].1≠t[k].1)(h:ltB f[i].1 t[k].1=true):leftM f t i k=f[i].1::leftM f t (i+1) k:=by
 unfold leftM
 rw [z2f hi,z2f hk,z10,if_neg hne,if_pos h]
theorem zeq {f t:List SelL}{i k:Nat}(hi:i<f.length)(hk:k<t.length)(hne:f[i].1≠t[k].1)(h:ltB f[i].1 t[k].1=false):leftM f t i k=t[k].1::leftM f t i (k+1):=by
 unfold leftM
 rw [z2f hi,z2f hk,z10,if_neg hne,if_neg (by rw [h];decide)]
def gM (f t:List SelL)(M:List ByteArray)(p:ByteArray):Option SelL:=if p∈M then atS t p else atS f p
def BtwI (f t:List SelL)(M:List ByteArray)(i k:Nat)(out:List SelL):Prop:=betV f t M=out++(leftM f t i k).filterMap (gM f t M)
theorem BtwI.start (f t:List SelL)(M:List ByteArray):BtwI f t M 0 0 []:=rfl
theorem BtwI.step {f t:List SelL}{M:List ByteArray}{i k i' k':Nat}{out:List SelL}{p:ByteArray}(h:BtwI f t M i k out)(he:leftM f t i k=p::leftM f t i' k'):BtwI f t M i' k' (out++(gM f t M p).toList):=by
 unfold BtwI at h ⊢
 rw [h,he,List.filterMap_cons]
 cases gM f t M p<;>simp
theorem BtwI.done {f t:List SelL}{M:List ByteArray}{i k:Nat}{out:List SelL}(h:BtwI f t M i k out)(hi:f.length≤i)(hk:t.length≤k):betV f t M=out:=by
 unfold BtwI at h
 rw [h,zbg f t hi hk]
 simp
def MovI (f t:List SelL)(i k:Nat)(out:List ByteArray):Prop:=movesP f t=out++(leftM f t i k).filter fun p=>decide (plcS f p≠plcS t p)
theorem MovI.start (f t:List SelL):MovI f t 0 0 []:=rfl
theorem MovI.yes {f t:List SelL}{i k i' k':Nat}{out:List ByteArray}{p:ByteArray}(h:MovI f t i k out)(he:leftM f t i k=p::leftM f t i' k')(hp:plcS f p≠plcS t p):MovI f t i' k' (out++[p]):=by
 unfold MovI at h ⊢
 rw [h,he,List.filter_cons,if_pos (decide_eq_true hp)]
 simp
theorem MovI.no {f t:List SelL}{i k i' k':Nat}{out:List ByteArray}{p:ByteArray}(h:MovI f t i k out)(he:leftM f t i k=p::leftM f t i' k')(hp:plcS f p=plcS t p):MovI f t i' k' out:=by
 unfold MovI at h ⊢
 rw [h,he,List.filter_cons,if_neg (by rw [decide_eq_false (fun g=>g hp)];decide)]
theorem MovI.done {f t:List SelL}{i k:Nat}{out:List ByteArray}(h:MovI f t i k out)(hi:f.length≤i)(hk:t.length≤k):movesP f t=out:=by
 unfold MovI at h
 rw [h,zbg f t hi hk]
 simp
structure OrdI (f t:List SelL)(i k:Nat):Prop where
 ft:∀ a b,a<i→k≤b→b<t.length→ltB (f.getD a default).1 (t.getD b default).1=true
 tf:∀ b a,b<k→i≤a→a<f.length→ltB (t.getD b default).1 (f.getD a default).1=true
theorem OrdI.start (f t:List SelL):OrdI f t 0 0:=⟨fun a b h=>absurd h (Nat.not_lt_zero a),fun b a h=>absurd h (Nat.not_lt_zero b)⟩
theorem z9t {s:List SelL}(h:incrS s){a b:Nat}(hab:a<b)(hb:b<s.length):ltB (s.getD a default).1 (s.getD b default).1=true:=by
 rw [zg,zg,ze hb,ze (Nat.lt_trans hab hb)]
 exact List.pairwise_iff_getElem.1 h a b (Nat.lt_trans hab hb) hb hab
theorem OrdI.swap {f t:List SelL}{i k:Nat}(h:OrdI f t i k):OrdI t f k i:=⟨h.tf,h.ft⟩
theorem OrdI.eq {f t:List SelL}{i k:Nat}(h:OrdI f t i k)(hf:incrS f)(ht:incrS t)(e:(f.getD i default).1=(t.getD k default).1):OrdI f t (i+1) (k+1):=by
 refine⟨fun a b ha hb hbl=>?_,fun b a hb ha hal=>?_⟩
 ·by_cases hai:a<i
  ·exact h.ft a b hai (by omega) hbl
  ·obtain rfl:a=i:=by omega
   rw [e]
   exact z9t ht (by omega) hbl
 ·by_cases hbk:b<k
  ·exact h.tf b a hbk (by omega) hal
  ·obtain rfl:b=k:=by omega
   rw [← e]
   exact z9t hf (by omega) hal
theorem OrdI.lt {f t:List SelL}{i k:Nat}(h:OrdI f t i k)(ht:incrS t)(hl:k<t.length→ltB (f.getD i default).1 (t.getD k default).1=true):OrdI f t (i+1) k:=by
 refine⟨fun a b ha hb hbl=>?_,fun b a hb ha hal=>h.tf b a hb (by omega) hal⟩
 by_cases hai:a<i
 ·exact h.ft a b hai hb hbl
 ·obtain rfl:a=i:=by omega
  have h0:=hl (by omega)
  by_cases hbk:b=k
  ·rw [hbk];exact h0
  ·exact z1o h0 (z9t ht (by omega) hbl)
theorem OrdI.gt {f t:List SelL}{i k:Nat}(h:OrdI f t i k)(hf:incrS f)(hl:i<f.length→ltB (t.getD k default).1 (f.getD i default).1=true):OrdI f t i (k+1):=(h.swap.lt hf hl).swap
theorem OrdI.none {f t:List SelL}{i k:Nat}(h:OrdI f t i k)(ht:incrS t)(hi:i<f.length)(hl:k<t.length→ltB (f.getD i default).1 (t.getD k default).1=true):atS t (f.getD i default).1=none:=by
 rw [z2w]
 intro y hy e
 obtain⟨b,hb,rfl⟩:=List.mem_iff_getElem.1 hy
 have hg:t.getD b default=t[b]:=by rw [zg,ze hb];rfl
 by_cases hbk:b<k
 ·have:=h.tf b i hbk (zq _) hi
  rw [hg,e,z0c]at this
  cases this
 ·have:=(h.lt ht hl).ft i b (Nat.lt_succ_self i) (by omega) hb
  rw [hg,e,z0c]at this
  cases this
theorem z41 {s:List SelL}(h:incrS s){i:Nat}(hi:i<s.length):plcS s s[i].1=plc s[i].2:=by
 unfold plcS
 rw [z6n h (List.getElem_mem hi)]
theorem z4t {s:List SelL}{p:ByteArray}(h:atS s p=none):plcS s p=-1:=by
 unfold plcS
 rw [h]
structure MvB (wr:World)(W:World)(p:ByteArray)(a b:Int):Prop where
 bel:Below wr.heap.size wr W
 box:W.heap[wr.heap.size]? = some (.cells #[.string p,.int .i64 a,.int .i64 b] 68 (0,0))
section
variable {wr W W':World} {p q:ByteArray} {a b c:Int}
theorem MvB.below (h:MvB wr W p a b)(hb:Below W.heap.size W W'):MvB wr W' p a b:=⟨h.bel.trans (hb.mono h.bel.size),(hb.block _ (zb h.box)).trans h.box⟩
theorem MvB.drewN (h:MvB wr W p a b)(n:Nat):MvB wr (W.drewN n) p a b:=h.below (z00 (Below.refl _ _) n)
theorem MvB.path (h:MvB wr W p a b):MvB wr (W.setCell ⟨wr.heap.size,0,none⟩ (.string q)) q a b:=⟨h.bel.setCell (zq _) _,heap_setCell_same _ _ 0 _ _ (.string q) h.box⟩
theorem MvB.one (h:MvB wr W p a b):MvB wr (W.setCell ⟨wr.heap.size,1,none⟩ (.int .i64 c)) p c b:=⟨h.bel.setCell (zq _) _,heap_setCell_same _ _ 1 _ _ (.int .i64 c) h.box⟩
theorem MvB.two (h:MvB wr W p a b):MvB wr (W.setCell ⟨wr.heap.size,2,none⟩ (.int .i64 c)) p a c:=⟨h.bel.setCell (zq _) _,heap_setCell_same _ _ 2 _ _ (.int .i64 c) h.box⟩
theorem MvB.c0 (h:MvB wr W p a b):W.cell? ⟨wr.heap.size,0,none⟩=some (.string p):=zw _ _ 0 _ _ _ h.box
theorem MvB.free (h:MvB wr W p a b)(j:Nat):W.frozen? ⟨wr.heap.size,j,none⟩=false:=frozen_of_row W wr.heap.size j _ _ h.box
theorem MvB.c1 (h:MvB wr W p a b):W.cell? ⟨wr.heap.size,1,none⟩=some (.int .i64 a):=zw _ _ 1 _ _ _ h.box
theorem MvB.c2 (h:MvB wr W p a b):W.cell? ⟨wr.heap.size,2,none⟩=some (.int .i64 b):=zw _ _ 2 _ _ _ h.box
end
theorem place44 (a b c:Int)(w:World)(hv:validB a b c=true):Calls prog 58 #[.agg #[.int .i64 a,.int .i64 b,.int .i64 c]] w fun e w'=>e=.returned (.int .i64 (plc (a,b,c)))∧Below w.heap.size w w':=z5w (a,b,c) w hv
theorem z0x {s:List SelL}{i:Nat}(h:i<s.length):s.getD i default=s[i]:=by rw [zg,ze h];rfl
theorem seleq44 (p q:ByteArray)(a b c d e f:Int)(w:World):(binOp .eql 53 (.agg #[.string p,.int .i64 a,.int .i64 b,.int .i64 c]) (.agg #[.string q,.int .i64 d,.int .i64 e,.int .i64 f])).run prog w=.ok (.bool (decide (((p,a,b,c):SelL)=(q,d,e,f)))) w:=ziw (p,a,b,c) (q,d,e,f) w
theorem zgh (fv tv:Value)(f t:List SelL)(w:World)(hf:f.length≤64)(ht:t.length≤64)(hfi:incrS f)(hti:incrS t)(hfy:∀ y∈f,validB y.2.1 y.2.2.1 y.2.2.2=true)(hty:∀ y∈t,validB y.2.1 y.2.2.1 y.2.2.2=true)(hF:SelsOf w.heap.size fv f w)(hT:SelsOf w.heap.size tv t w) :
  Calls prog 29 #[fv,tv] w fun e w'=>∃ v,e=.returned (.tuple #[v,.int .i64 0])∧MovesOf w'.heap.size v f t (movesP f t) w'∧Below w.heap.size w w':=by
 have HRF:=zh (z8y fv f w hf hfy hfi hF)
 have HRT:=zh (fun W (hb:Below w.heap.size w W)=>z8y tv t W ht hty hti (hT.on hb))
 obtain⟨fa,fc,rfl⟩:=zo hF
 obtain⟨ta,tc,rfl⟩:=zo hT
 have HFC:Hid (∀ i (hi:i<f.length),∃ b off,fa=some ⟨b,off,none⟩∧∀ W,Below w.heap.size w W→W.cell? ⟨b,off+i*4,none⟩=some (.string f[i].1)∧W.cell? ⟨b,off+i*4+1,none⟩=some (.int .i64 f[i].2.1)∧W.cell? ⟨b,off+i*4+2,none⟩=some (.int .i64 f[i].2.2.1)∧W.cell? ⟨b,off+i*4+3,none⟩=some (.int .i64 f[i].2.2.2)):=zh (fun i hi=>by
  obtain⟨b,off,e,hl,d0,d1,d2,d3⟩:=z34 hF hi
  exact⟨b,off,e,fun W hb=>⟨(hb.cell (p:=⟨b,off+i*4,none⟩) hl).trans d0,(hb.cell (p:=⟨b,off+i*4+1,none⟩) hl).trans d1,(hb.cell (p:=⟨b,off+i*4+2,none⟩) hl).trans d2,(hb.cell (p:=⟨b,off+i*4+3,none⟩) hl).trans d3⟩⟩)
 have HTC:Hid (∀ i (hi:i<t.length),∃ b off,ta=some ⟨b,off,none⟩∧∀ W,Below w.heap.size w W→W.cell? ⟨b,off+i*4,none⟩=some (.string t[i].1)∧W.cell? ⟨b,off+i*4+1,none⟩=some (.int .i64 t[i].2.1)∧W.cell? ⟨b,off+i*4+2,none⟩=some (.int .i64 t[i].2.2.1)∧W.cell? ⟨b,off+i*4+3,none⟩=some (.int .i64 t[i].2.2.2)):=zh (fun i hi=>by
  obtain⟨b,off,e,hl,d0,d1,d2,d3⟩:=z34 hT hi
  exact⟨b,off,e,fun W hb=>⟨(hb.cell (p:=⟨b,off+i*4,none⟩) hl).trans d0,(hb.cell (p:=⟨b,off+i*4+1,none⟩) hl).trans d1,(hb.cell (p:=⟨b,off+i*4+2,none⟩) hl).trans d2,(hb.cell (p:=⟨b,off+i*4+3,none⟩) hl).trans d3⟩⟩)
 have HFI:=zh hfi
 have HTI:=zh hti
 have HFV:Hid (∀ i (hi:i<f.length),validB f[i].2.1 f[i].2.2.1 f[i].2.2.2=true):=zh (fun i hi=>hfy _ (List.getElem_mem hi))
 have HTV:Hid (∀ i (hi:i<t.length),validB t[i].2.1 t[i].2.2.1 t[i].2.2.2=true):=zh (fun i hi=>hty _ (List.getElem_mem hi))
 clear hF hT hfi hti hfy hty
 go_enter func29,ntmps29
 go_wp2_with fail
 refine HRF.out.mono ?_
 rintro e w1 ⟨rfl,hb1⟩
 have HB1:=zh hb1
 clear hb1 HRF
 go_wp2_with fail
 refine(HRT.out _ HB1.out).mono ?_
 rintro e w2 ⟨rfl,hb2⟩
 have HB2:=zj HB1 hb2
 clear hb2 HRT HB1
 have hbq:=belQ w2 (.cells #[] 68)
 have hz2:=HB2.out.size
 have HB0:=zh (HB2.out.trans (hbq.mono hz2))
 have HO0:Hid ((w2.alloc (.cells #[] 68)).ownsRow w.heap.size 68 3 (.slice (some ⟨w2.heap.size,0,none⟩) 0 0) 0 (movCells f t [])):=zh ⟨rfl,.inr ⟨w2.heap.size,0,#[],rfl,hz2,zn w2 _,zq _,by unfold maxLen;omega,rfl,rfl⟩⟩
 clear hbq hz2 HB2
 obtain⟨i0,hi0',hz0,hz1,hz2⟩:=info_parts zel
 go_upto_region 4 with fail
 generalize w2.alloc (.cells #[] 68)=w3 at *
 generalize w2.heap.size=g3 at *
 go_wp2_with fail
 go_loopw [6,7,8] (fun ov pi pk wr=>Hid (∃ (i k:Nat) (out:List ByteArray),i≤f.length∧k≤t.length∧pi=.int .i64 (i:Int)∧pk=.int .i64 (k:Int)∧wr.ownsRow w.heap.size 68 3 ov out.length (movCells f t out)∧MovI f t i k out∧OrdI f t i k∧out.length≤i+k∧Below w.heap.size w wr)) (fun _ pi pk _=>f.length+t.length - ((intOf pi).toNat+(intOf pk).toNat))
 case atStart=>exact zh ⟨0,0,[],Nat.zero_le _,Nat.zero_le _,rfl,rfl,HO0.out,MovI.start _ _,OrdI.start _ _,Nat.zero_le _,HB0.out⟩
 case round =>
  obtain⟨i,k,out,hi,hk,rfl,rfl,ho,hmi,hoi,hol,hb⟩:=hrel.out
  have HO:=zh ho
  have HMI:=zh hmi
  have HOI:=zh hoi
  have HBW:=zh hb
  obtain⟨oa,oc,rfl⟩:=z05 ho
  clear hrel ho hmi hoi hb
  have hi0:(0:Int)≤(i:Int):=Int.natCast_nonneg i
  have hk0:(0:Int)≤(k:Int):=Int.natCast_nonneg k
  have HM0:Hid (MvB wr (wr.alloc (.cells #[.string ⟨#[]⟩,.int .i64 (-1),.int .i64 (-1)] 68)) ⟨#[]⟩ (-1) (-1)):=zh ⟨belQ wr _,zn wr _⟩
  have HBC:Hid (∀ W p a b,MvB wr W p a b→Below w.heap.size w W):=zh (fun W p a b h=>HBW.out.trans (h.bel.mono HBW.out.size))
  by_cases hli:i<f.length
  case neg =>
   by_cases hlk:k<t.length
   case neg =>
    have HR:Hid (MovesOf wr.heap.size (.slice oa out.length oc) f t (movesP f t) wr):=zh (by rw [HMI.out.done (Nat.le_of_not_lt hli) (Nat.le_of_not_lt hlk)];exact zbx HO.out)
    clear HO HM0 HBC
    go_wp2_with fail
    go_ret2
    exact⟨_,rfl,HR.out,HBW.out⟩
   have hkz:(k:Int)<(t.length:Int):=Int.ofNat_lt.2 hlk
   obtain⟨b2,off2,rfl,hct⟩:=HTC.out k hlk
   have hkm:((k:Int) == (t.length:Int))=false:=by simp;omega
   have HEQ:=zh (zi2 (Nat.le_of_not_lt hli) hlk)
   have HOR:=zh (HOI.out.gt HFI.out (fun h=>absurd h hli))
   have HPT:=zh (z41 HTI.out hlk)
   have HPF:Hid (plcS f t[k].1=-1):=zh (z4t (by
    have h:=HOI.out.swap.none HFI.out hlk (fun h=>absurd h hli)
    rwa [z0x hlk]at h))
   have HVY:=zh (HTV.out k hlk)
   generalize t[k]=y at *
   obtain⟨yp,y1,y2,y3⟩:=y
   simp only at hct HEQ HPT HPF HVY
   have HCT:=zh hct
   clear hct
   go_upto_region 7 with fail
   generalize wr.alloc (.cells #[.string ⟨#[]⟩,.int .i64 (-1),.int .i64 (-1)] 68)=W0 at *
   obtain⟨y0,y1c,y2c,y3c⟩:=HCT.out W0 (HBC.out _ _ _ _ HM0.out)
   have m0:=HM0.out.c0
   have mf:=HM0.out.free 0
   go_quiet (fail)
   have HM1:=zh (HM0.out.drewN nq)
   generalize W0.drewN nq=W1 at *
   clear y0 y1c y2c y3c m0 mf HM0
   obtain⟨y0,y1c,y2c,y3c⟩:=HCT.out W1 (HBC.out _ _ _ _ HM1.out)
   have m0:=HM1.out.c0
   have mf:=HM1.out.free 0
   go_upto_region 11 with fail
   have HM2:=zh (HM1.out.path (q:=yp))
   generalize W1.setCell ⟨wr.heap.size,0,none⟩ (.string yp)=W2 at *
   clear y0 y1c y2c y3c m0 mf HM1
   obtain⟨y0,y1c,y2c,y3c⟩:=HCT.out W2 (HBC.out _ _ _ _ HM2.out)
   have m0:=HM2.out.c0
   have mf:=HM2.out.free 0
   go_quiet (fail)
   have HM3:=zh (HM2.out.drewN nq)
   generalize W2.drewN nq=W3 at *
   clear y0 y1c y2c y3c m0 mf HM2
   go_upto_region 15 with fail
   obtain⟨y0,y1c,y2c,y3c⟩:=HCT.out W3 (HBC.out _ _ _ _ HM3.out)
   have m0:=HM3.out.c0
   have mf:=HM3.out.free 0
   go_quiet (fail)
   have HM4:=zh (HM3.out.drewN nq)
   generalize W3.drewN nq=W4 at *
   clear y0 y1c y2c y3c m0 mf HM3
   go_upto_region 16 with fail
   obtain⟨y0,y1c,y2c,y3c⟩:=HCT.out W4 (HBC.out _ _ _ _ HM4.out)
   have HPC:=zh (place44 y1 y2 y3 W4 HVY.out)
   go_wp2_with fail
   refine HPC.out.mono ?_
   rintro e W5 ⟨rfl,hbp⟩
   have HM5:=zh (HM4.out.below hbp)
   clear hbp HPC
   clear y0 y1c y2c y3c HM4
   have m0:=HM5.out.c2
   have mf:=HM5.out.free 2
   go_upto_region 17 with fail
   have HM6:=zh (HM5.out.two (c:=plc (y1,y2,y3)))
   generalize W5.setCell ⟨wr.heap.size,2,none⟩ (.int .i64 (plc (y1,y2,y3)))=W6 at *
   clear m0 mf HM5
   go_upto_region 18 with fail
   have HBE:=zh (HBC.out _ _ _ _ HM6.out)
   have HOE:=zh (z07 HO.out HM6.out.bel)
   obtain⟨A,hA⟩:∃ A:Int,(-1)=A:=⟨_,rfl⟩
   obtain⟨B,hB⟩:∃ B:Int,plc (y1,y2,y3)=B:=⟨_,rfl⟩
   by_cases hAB:A=B
   case pos =>
    have hne:((-1) != plc (y1,y2,y3))=false:=by rw [hA,hB,hAB];simp
    have HM2:=zh (HMI.out.no HEQ.out (by rw [HPF.out,HPT.out,hA,hB];exact hAB))
    have m1:=HM6.out.c1
    have m2:=HM6.out.c2
    clear HM6 HMI HEQ HPF HPT hA hB HO
    go_wp2_with fail
    all_goals
     refine⟨zh ⟨i,k+1,out,by omega,by omega,by go_num,by go_num,HOE.out,HM2.out,HOR.out,by omega,HBE.out⟩,?_⟩
     simp [intOf];omega
   case neg =>
    have hne:((-1) != plc (y1,y2,y3))=true:=by rw [hA,hB];simpa using hAB
    have HM2:=zh (HMI.out.yes HEQ.out (by rw [HPF.out,HPT.out,hA,hB];exact hAB))
    have HMC:Hid (movCells f t (out++[yp])=movCells f t out++[.string yp,.int .i64 ((-1)),.int .i64 (plc (y1,y2,y3))]):=zh (by rw [z12];unfold movC;rw [HPF.out,HPT.out])
    have m0:=HM6.out.c0
    have m1:=HM6.out.c1
    have m2:=HM6.out.c2
    clear HMI HEQ HPF HPT hA hB HO
    have hbq:=belQ W6 (.cells #[.string yp,.int .i64 ((-1)),.int .i64 (plc (y1,y2,y3))] 68)
    have HN9:=zh (zn W6 (.cells #[.string yp,.int .i64 ((-1)),.int .i64 (plc (y1,y2,y3))] 68))
    have HO9:=zh (z07 HOE.out hbq)
    have HB9:=zj HBE hbq
    have hsz9:w.heap.size≤(W6.alloc (.cells #[.string yp,.int .i64 ((-1)),.int .i64 (plc (y1,y2,y3))] 68)).heap.size:=HB9.out.size
    clear hbq HM6 HOE HBE
    go_wp2_with (at_builtin;refine wpList_append_own _ rfl _ _ 64 rfl w.heap.size 68 i0 _ 3 32 underlying64 hi0' hz0 hz1 hz2 rfl (by decide) (.slice oa out.length oc) out.length _ (by rfl) HO9.out ⟨W6.heap.size,0,none⟩ 1 1 [.string yp,.int .i64 ((-1)),.int .i64 (plc (y1,y2,y3))] (by rfl) (by rfl) (World.news_of_block HN9.out) (by simp [Value.oneCell']) (by unfold maxLen;omega) (by omega) hsz9 ?_;intro v' wB hown' hgrow _;have HOW:=zh hown';have HGR:=zh hgrow;clear hown' hgrow;obtain⟨g9,gc9,rfl⟩:=ownsRow_succ HOW.out)
    all_goals
     have HB10:=zh (HB9.out.grown HGR.out hsz9 (fun b hb=>(z0g HO9.out b hb).1))
     have HOL:Hid (wB.ownsRow w.heap.size 68 3 (.slice (some ⟨g9,0,none⟩) (out.length+1) gc9) (out++[yp]).length (movCells f t (out++[yp]))):=zh (by rw [HMC.out,List.length_append];exact HOW.out)
     refine⟨zh ⟨i,k+1,out++[yp],by omega,by omega,by go_num,by go_num,HOL.out,HM2.out,HOR.out,by rw [List.length_append,List.length_singleton];omega,HB10.out⟩,?_⟩
     simp [intOf];omega
  have hiz:(i:Int)<(f.length:Int):=Int.ofNat_lt.2 hli
  obtain⟨b1,off1,rfl,hcf⟩:=HFC.out i hli
  by_cases hlk:k<t.length
  case neg =>
   obtain rfl:k=t.length:=Nat.le_antisymm hk (Nat.le_of_not_lt hlk)
   have hkm:((t.length:Int) == (t.length:Int))=true:=by simp
   have HEQ:=zh (zi1 hli (zq t.length))
   have HOR:=zh (HOI.out.lt HTI.out (fun h=>absurd h hlk))
   have HPF:=zh (z41 HFI.out hli)
   have HPT:Hid (plcS t f[i].1=-1):=zh (z4t (by
    have h:=HOI.out.none HTI.out hli (fun h=>absurd h hlk)
    rwa [z0x hli]at h))
   have HVX:=zh (HFV.out i hli)
   generalize f[i]=x at *
   obtain⟨xp,x1,x2,x3⟩:=x
   simp only at hcf HEQ HPT HPF HVX
   have HCF:=zh hcf
   clear hcf
   go_upto_region 7 with fail
   generalize wr.alloc (.cells #[.string ⟨#[]⟩,.int .i64 (-1),.int .i64 (-1)] 68)=W0 at *
   obtain⟨x0,x1c,x2c,x3c⟩:=HCF.out W0 (HBC.out _ _ _ _ HM0.out)
   have m0:=HM0.out.c0
   have mf:=HM0.out.free 0
   go_quiet (fail)
   have HM1:=zh (HM0.out.drewN nq)
   generalize W0.drewN nq=W1 at *
   clear x0 x1c x2c x3c m0 mf HM0
   obtain⟨x0,x1c,x2c,x3c⟩:=HCF.out W1 (HBC.out _ _ _ _ HM1.out)
   have m0:=HM1.out.c0
   have mf:=HM1.out.free 0
   go_upto_region 11 with fail
   have HM2:=zh (HM1.out.path (q:=xp))
   generalize W1.setCell ⟨wr.heap.size,0,none⟩ (.string xp)=W2 at *
   clear x0 x1c x2c x3c m0 mf HM1
   obtain⟨x0,x1c,x2c,x3c⟩:=HCF.out W2 (HBC.out _ _ _ _ HM2.out)
   have m0:=HM2.out.c0
   have mf:=HM2.out.free 0
   go_quiet (fail)
   have HM3:=zh (HM2.out.drewN nq)
   generalize W2.drewN nq=W3 at *
   clear x0 x1c x2c x3c m0 mf HM2
   go_upto_region 12 with fail
   obtain⟨x0,x1c,x2c,x3c⟩:=HCF.out W3 (HBC.out _ _ _ _ HM3.out)
   have HPC:=zh (place44 x1 x2 x3 W3 HVX.out)
   go_wp2_with fail
   refine HPC.out.mono ?_
   rintro e W4 ⟨rfl,hbp⟩
   have HM4:=zh (HM3.out.below hbp)
   clear hbp HPC
   clear x0 x1c x2c x3c HM3
   have m0:=HM4.out.c1
   have mf:=HM4.out.free 1
   go_upto_region 13 with fail
   have HM5:=zh (HM4.out.one (c:=plc (x1,x2,x3)))
   generalize W4.setCell ⟨wr.heap.size,1,none⟩ (.int .i64 (plc (x1,x2,x3)))=W5 at *
   clear m0 mf HM4
   obtain⟨x0,x1c,x2c,x3c⟩:=HCF.out W5 (HBC.out _ _ _ _ HM5.out)
   go_quiet (fail)
   have HM6:=zh (HM5.out.drewN nq)
   generalize W5.drewN nq=W6 at *
   clear x0 x1c x2c x3c HM5
   go_upto_region 15 with fail
   have m0:=HM6.out.c0
   have mf:=HM6.out.free 0
   go_quiet (fail)
   have HM7:=zh (HM6.out.drewN nq)
   generalize W6.drewN nq=W7 at *
   clear m0 mf HM6
   go_upto_region 18 with fail
   have HBE:=zh (HBC.out _ _ _ _ HM7.out)
   have HOE:=zh (z07 HO.out HM7.out.bel)
   obtain⟨A,hA⟩:∃ A:Int,plc (x1,x2,x3)=A:=⟨_,rfl⟩
   obtain⟨B,hB⟩:∃ B:Int,(-1)=B:=⟨_,rfl⟩
   by_cases hAB:A=B
   case pos =>
    have hne:(plc (x1,x2,x3) != (-1))=false:=by rw [hA,hB,hAB];simp
    have HM2:=zh (HMI.out.no HEQ.out (by rw [HPF.out,HPT.out,hA,hB];exact hAB))
    have m1:=HM7.out.c1
    have m2:=HM7.out.c2
    clear HM7 HMI HEQ HPF HPT hA hB HO
    go_wp2_with fail
    all_goals
     refine⟨zh ⟨i+1,t.length,out,by omega,by omega,by go_num,by go_num,HOE.out,HM2.out,HOR.out,by omega,HBE.out⟩,?_⟩
     simp [intOf];omega
   case neg =>
    have hne:(plc (x1,x2,x3) != (-1))=true:=by rw [hA,hB];simpa using hAB
    have HM2:=zh (HMI.out.yes HEQ.out (by rw [HPF.out,HPT.out,hA,hB];exact hAB))
    have HMC:Hid (movCells f t (out++[xp])=movCells f t out++[.string xp,.int .i64 (plc (x1,x2,x3)),.int .i64 ((-1))]):=zh (by rw [z12];unfold movC;rw [HPF.out,HPT.out])
    have m0:=HM7.out.c0
    have m1:=HM7.out.c1
    have m2:=HM7.out.c2
    clear HMI HEQ HPF HPT hA hB HO
    have hbq:=belQ W7 (.cells #[.string xp,.int .i64 (plc (x1,x2,x3)),.int .i64 ((-1))] 68)
    have HN9:=zh (zn W7 (.cells #[.string xp,.int .i64 (plc (x1,x2,x3)),.int .i64 ((-1))] 68))
    have HO9:=zh (z07 HOE.out hbq)
    have HB9:=zj HBE hbq
    have hsz9:w.heap.size≤(W7.alloc (.cells #[.string xp,.int .i64 (plc (x1,x2,x3)),.int .i64 ((-1))] 68)).heap.size:=HB9.out.size
    clear hbq HM7 HOE HBE
    go_wp2_with (at_builtin;refine wpList_append_own _ rfl _ _ 64 rfl w.heap.size 68 i0 _ 3 32 underlying64 hi0' hz0 hz1 hz2 rfl (by decide) (.slice oa out.length oc) out.length _ (by rfl) HO9.out ⟨W7.heap.size,0,none⟩ 1 1 [.string xp,.int .i64 (plc (x1,x2,x3)),.int .i64 ((-1))] (by rfl) (by rfl) (World.news_of_block HN9.out) (by simp [Value.oneCell']) (by unfold maxLen;omega) (by omega) hsz9 ?_;intro v' wB hown' hgrow _;have HOW:=zh hown';have HGR:=zh hgrow;clear hown' hgrow;obtain⟨g9,gc9,rfl⟩:=ownsRow_succ HOW.out)
    all_goals
     have HB10:=zh (HB9.out.grown HGR.out hsz9 (fun b hb=>(z0g HO9.out b hb).1))
     have HOL:Hid (wB.ownsRow w.heap.size 68 3 (.slice (some ⟨g9,0,none⟩) (out.length+1) gc9) (out++[xp]).length (movCells f t (out++[xp]))):=zh (by rw [HMC.out,List.length_append];exact HOW.out)
     refine⟨zh ⟨i+1,t.length,out++[xp],by omega,by omega,by go_num,by go_num,HOL.out,HM2.out,HOR.out,by rw [List.length_append,List.length_singleton];omega,HB10.out⟩,?_⟩
     simp [intOf];omega
  have hkz:(k:Int)<(t.length:Int):=Int.ofNat_lt.2 hlk
  have hkm:((k:Int) == (t.length:Int))=false:=by simp;omega
  obtain⟨b2,off2,rfl,hct⟩:=HTC.out k hlk
  have HVX:=zh (HFV.out i hli)
  have HVY:=zh (HTV.out k hlk)
  by_cases he:f[i].1=t[k].1
  case pos =>
   have HEQ:=zh (zep hli hlk he)
   have HOR:=zh (HOI.out.eq HFI.out HTI.out (by rw [z0x hli,z0x hlk];exact he))
   have HPF:=zh (z41 HFI.out hli)
   have HPT:Hid (plcS t f[i].1=plc t[k].2):=zh (by rw [he];exact z41 HTI.out hlk)
   have hle:=z46 f[i].1 t[k].1
   rw [he,z0c]at hle
   generalize f[i]=x at *
   generalize t[k]=y at *
   obtain⟨xp,x1,x2,x3⟩:=x
   obtain⟨yp,y1,y2,y3⟩:=y
   simp only at hcf hct HEQ HPT HPF HVX HVY he hle
   subst he
   have HCF:=zh hcf
   have HCT:=zh hct
   have hsq:=fun W=>seleq44 xp xp x1 x2 x3 y1 y2 y3 W
   simp only [Bool.not_false]at hle
   clear hct hcf
   go_upto_region 7 with fail
   generalize wr.alloc (.cells #[.string ⟨#[]⟩,.int .i64 (-1),.int .i64 (-1)] 68)=W0 at *
   obtain⟨x0,x1c,x2c,x3c⟩:=HCF.out W0 (HBC.out _ _ _ _ HM0.out)
   obtain⟨y0,y1c,y2c,y3c⟩:=HCT.out W0 (HBC.out _ _ _ _ HM0.out)
   have m0:=HM0.out.c0
   have mf:=HM0.out.free 0
   go_quiet (fail)
   have HM1:=zh (HM0.out.drewN nq)
   generalize W0.drewN nq=W1 at *
   clear x0 x1c x2c x3c y0 y1c y2c y3c m0 mf HM0
   obtain⟨x0,x1c,x2c,x3c⟩:=HCF.out W1 (HBC.out _ _ _ _ HM1.out)
   obtain⟨y0,y1c,y2c,y3c⟩:=HCT.out W1 (HBC.out _ _ _ _ HM1.out)
   have m0:=HM1.out.c0
   have mf:=HM1.out.free 0
   go_upto_region 11 with fail
   have HM2:=zh (HM1.out.path (q:=xp))
   generalize W1.setCell ⟨wr.heap.size,0,none⟩ (.string xp)=W2 at *
   clear x0 x1c x2c x3c y0 y1c y2c y3c m0 mf HM1
   obtain⟨x0,x1c,x2c,x3c⟩:=HCF.out W2 (HBC.out _ _ _ _ HM2.out)
   obtain⟨y0,y1c,y2c,y3c⟩:=HCT.out W2 (HBC.out _ _ _ _ HM2.out)
   have m0:=HM2.out.c0
   have mf:=HM2.out.free 0
   go_quiet (fail)
   have HM3:=zh (HM2.out.drewN nq)
   generalize W2.drewN nq=W3 at *
   clear x0 x1c x2c x3c y0 y1c y2c y3c m0 mf HM2
   go_upto_region 12 with fail
   obtain⟨x0,x1c,x2c,x3c⟩:=HCF.out W3 (HBC.out _ _ _ _ HM3.out)
   have HPC:=zh (place44 x1 x2 x3 W3 HVX.out)
   go_wp2_with fail
   refine HPC.out.mono ?_
   rintro e W4 ⟨rfl,hbp⟩
   have HM4:=zh (HM3.out.below hbp)
   clear hbp HPC
   clear x0 x1c x2c x3c HM3
   have m0:=HM4.out.c1
   have mf:=HM4.out.free 1
   go_upto_region 13 with fail
   have HM5:=zh (HM4.out.one (c:=plc (x1,x2,x3)))
   generalize W4.setCell ⟨wr.heap.size,1,none⟩ (.int .i64 (plc (x1,x2,x3)))=W5 at *
   clear m0 mf HM4
   obtain⟨x0,x1c,x2c,x3c⟩:=HCF.out W5 (HBC.out _ _ _ _ HM5.out)
   obtain⟨y0,y1c,y2c,y3c⟩:=HCT.out W5 (HBC.out _ _ _ _ HM5.out)
   go_quiet (fail)
   have HM6:=zh (HM5.out.drewN nq)
   generalize W5.drewN nq=W6 at *
   clear x0 x1c x2c x3c y0 y1c y2c y3c HM5
   go_upto_region 15 with fail
   obtain⟨y0,y1c,y2c,y3c⟩:=HCT.out W6 (HBC.out _ _ _ _ HM6.out)
   have m0:=HM6.out.c0
   have mf:=HM6.out.free 0
   go_quiet (fail)
   have HM7:=zh (HM6.out.drewN nq)
   generalize W6.drewN nq=W7 at *
   clear y0 y1c y2c y3c m0 mf HM6
   go_upto_region 16 with fail
   obtain⟨y0,y1c,y2c,y3c⟩:=HCT.out W7 (HBC.out _ _ _ _ HM7.out)
   have HPC:=zh (place44 y1 y2 y3 W7 HVY.out)
   go_wp2_with fail
   refine HPC.out.mono ?_
   rintro e W8 ⟨rfl,hbp⟩
   have HM8:=zh (HM7.out.below hbp)
   clear hbp HPC
   clear y0 y1c y2c y3c HM7
   have m0:=HM8.out.c2
   have mf:=HM8.out.free 2
   go_upto_region 17 with fail
   have HM9:=zh (HM8.out.two (c:=plc (y1,y2,y3)))
   generalize W8.setCell ⟨wr.heap.size,2,none⟩ (.int .i64 (plc (y1,y2,y3)))=W9 at *
   clear m0 mf HM8
   go_upto_region 18 with fail
   have HBE:=zh (HBC.out _ _ _ _ HM9.out)
   have HOE:=zh (z07 HO.out HM9.out.bel)
   obtain⟨A,hA⟩:∃ A:Int,plc (x1,x2,x3)=A:=⟨_,rfl⟩
   obtain⟨B,hB⟩:∃ B:Int,plc (y1,y2,y3)=B:=⟨_,rfl⟩
   cases hsd:(decide (x1=y1)&&(decide (x2=y2)&&decide (x3=y3)))with
   | true =>
    have hAB:A=B:=by
     rw [← hA,← hB]
     have h:=hsd
     simp at h
     obtain⟨e1,e2,e3⟩:=h
     rw [e1,e2,e3]
    have hne:(plc (x1,x2,x3) != plc (y1,y2,y3))=false:=by rw [hA,hB,hAB];simp
    have HM2:=zh (HMI.out.no HEQ.out (by rw [HPF.out,HPT.out,hA,hB];exact hAB))
    have m1:=HM9.out.c1
    have m2:=HM9.out.c2
    clear HM9 HMI HEQ HPF HPT hA hB HO
    go_wp2_with fail
    all_goals
     refine⟨zh ⟨i+1,k+1,out,by omega,by omega,by go_num,by go_num,HOE.out,HM2.out,HOR.out,by omega,HBE.out⟩,?_⟩
     simp [intOf];omega
   | false =>
    by_cases hAB:A=B
    case pos =>
     have hne:(plc (x1,x2,x3) != plc (y1,y2,y3))=false:=by rw [hA,hB,hAB];simp
     have HM2:=zh (HMI.out.no HEQ.out (by rw [HPF.out,HPT.out,hA,hB];exact hAB))
     have m1:=HM9.out.c1
     have m2:=HM9.out.c2
     clear HM9 HMI HEQ HPF HPT hA hB HO
     go_wp2_with fail
     all_goals
      refine⟨zh ⟨i+1,k+1,out,by omega,by omega,by go_num,by go_num,HOE.out,HM2.out,HOR.out,by omega,HBE.out⟩,?_⟩
      simp [intOf];omega
    case neg =>
     have hne:(plc (x1,x2,x3) != plc (y1,y2,y3))=true:=by rw [hA,hB];simpa using hAB
     have HM2:=zh (HMI.out.yes HEQ.out (by rw [HPF.out,HPT.out,hA,hB];exact hAB))
     have HMC:Hid (movCells f t (out++[xp])=movCells f t out++[.string xp,.int .i64 (plc (x1,x2,x3)),.int .i64 (plc (y1,y2,y3))]):=zh (by rw [z12];unfold movC;rw [HPF.out,HPT.out])
     have m0:=HM9.out.c0
     have m1:=HM9.out.c1
     have m2:=HM9.out.c2
     clear HMI HEQ HPF HPT hA hB HO
     have hbq:=belQ W9 (.cells #[.string xp,.int .i64 (plc (x1,x2,x3)),.int .i64 (plc (y1,y2,y3))] 68)
     have HN9:=zh (zn W9 (.cells #[.string xp,.int .i64 (plc (x1,x2,x3)),.int .i64 (plc (y1,y2,y3))] 68))
     have HO9:=zh (z07 HOE.out hbq)
     have HB9:=zj HBE hbq
     have hsz9:w.heap.size≤(W9.alloc (.cells #[.string xp,.int .i64 (plc (x1,x2,x3)),.int .i64 (plc (y1,y2,y3))] 68)).heap.size:=HB9.out.size
     clear hbq HM9 HOE HBE
     go_wp2_with (at_builtin;refine wpList_append_own _ rfl _ _ 64 rfl w.heap.size 68 i0 _ 3 32 underlying64 hi0' hz0 hz1 hz2 rfl (by decide) (.slice oa out.length oc) out.length _ (by rfl) HO9.out ⟨W9.heap.size,0,none⟩ 1 1 [.string xp,.int .i64 (plc (x1,x2,x3)),.int .i64 (plc (y1,y2,y3))] (by rfl) (by rfl) (World.news_of_block HN9.out) (by simp [Value.oneCell']) (by unfold maxLen;omega) (by omega) hsz9 ?_;intro v' wB hown' hgrow _;have HOW:=zh hown';have HGR:=zh hgrow;clear hown' hgrow;obtain⟨g9,gc9,rfl⟩:=ownsRow_succ HOW.out)
     all_goals
      have HB10:=zh (HB9.out.grown HGR.out hsz9 (fun b hb=>(z0g HO9.out b hb).1))
      have HOL:Hid (wB.ownsRow w.heap.size 68 3 (.slice (some ⟨g9,0,none⟩) (out.length+1) gc9) (out++[xp]).length (movCells f t (out++[xp]))):=zh (by rw [HMC.out,List.length_append];exact HOW.out)
      refine⟨zh ⟨i+1,k+1,out++[xp],by omega,by omega,by go_num,by go_num,HOL.out,HM2.out,HOR.out,by rw [List.length_append,List.length_singleton];omega,HB10.out⟩,?_⟩
      simp [intOf];omega
  have hle:=z46 f[i].1 t[k].1
  cases hlt:ltB f[i].1 t[k].1 with
  | true =>
   have HEQ:=zh (zer hli hlk he hlt)
   have HOR:=zh (HOI.out.lt HTI.out (fun h=>by rw [z0x hli,z0x hlk];exact hlt))
   have HPF:=zh (z41 HFI.out hli)
   have HPT:Hid (plcS t f[i].1=-1):=zh (z4t (by
    have h:=HOI.out.none HTI.out hli (fun h=>by rw [z0x hli,z0x hlk];exact hlt)
    rwa [z0x hli]at h))
   have hbl:Op.bytesLess f[i].1.toList t[k].1.toList=true:=hlt
   clear hle hlt
   generalize f[i]=x at *
   generalize t[k]=y at *
   obtain⟨xp,x1,x2,x3⟩:=x
   obtain⟨yp,y1,y2,y3⟩:=y
   simp only at hcf hct HEQ HPT HPF HVX HVY he hbl
   have HCF:=zh hcf
   have HCT:=zh hct
   have hpb:(xp.toList == yp.toList)=false:=by rw [z0q];exact decide_eq_false he
   have hpb2:(yp.toList == xp.toList)=false:=by rw [z0q];exact decide_eq_false (fun e=>he e.symm)
   have hsd:decide (((xp,x1,x2,x3):SelL)=(yp,y1,y2,y3))=false:=decide_eq_false (fun e=>he (congrArg Prod.fst e))
   have hsq:=fun W=>seleq44 xp yp x1 x2 x3 y1 y2 y3 W
   rw [hsd]at hsq
   clear hct hcf he hsd
   go_upto_region 7 with fail
   generalize wr.alloc (.cells #[.string ⟨#[]⟩,.int .i64 (-1),.int .i64 (-1)] 68)=W0 at *
   obtain⟨x0,x1c,x2c,x3c⟩:=HCF.out W0 (HBC.out _ _ _ _ HM0.out)
   obtain⟨y0,y1c,y2c,y3c⟩:=HCT.out W0 (HBC.out _ _ _ _ HM0.out)
   have m0:=HM0.out.c0
   have mf:=HM0.out.free 0
   go_quiet (fail)
   have HM1:=zh (HM0.out.drewN nq)
   generalize W0.drewN nq=W1 at *
   clear x0 x1c x2c x3c y0 y1c y2c y3c m0 mf HM0
   obtain⟨x0,x1c,x2c,x3c⟩:=HCF.out W1 (HBC.out _ _ _ _ HM1.out)
   obtain⟨y0,y1c,y2c,y3c⟩:=HCT.out W1 (HBC.out _ _ _ _ HM1.out)
   have m0:=HM1.out.c0
   have mf:=HM1.out.free 0
   go_upto_region 11 with fail
   have HM2:=zh (HM1.out.path (q:=xp))
   generalize W1.setCell ⟨wr.heap.size,0,none⟩ (.string xp)=W2 at *
   clear x0 x1c x2c x3c y0 y1c y2c y3c m0 mf HM1
   obtain⟨x0,x1c,x2c,x3c⟩:=HCF.out W2 (HBC.out _ _ _ _ HM2.out)
   obtain⟨y0,y1c,y2c,y3c⟩:=HCT.out W2 (HBC.out _ _ _ _ HM2.out)
   have m0:=HM2.out.c0
   have mf:=HM2.out.free 0
   go_quiet (fail)
   have HM3:=zh (HM2.out.drewN nq)
   generalize W2.drewN nq=W3 at *
   clear x0 x1c x2c x3c y0 y1c y2c y3c m0 mf HM2
   go_upto_region 12 with fail
   obtain⟨x0,x1c,x2c,x3c⟩:=HCF.out W3 (HBC.out _ _ _ _ HM3.out)
   have HPC:=zh (place44 x1 x2 x3 W3 HVX.out)
   go_wp2_with fail
   refine HPC.out.mono ?_
   rintro e W4 ⟨rfl,hbp⟩
   have HM4:=zh (HM3.out.below hbp)
   clear hbp HPC
   clear x0 x1c x2c x3c HM3
   have m0:=HM4.out.c1
   have mf:=HM4.out.free 1
   go_upto_region 13 with fail
   have HM5:=zh (HM4.out.one (c:=plc (x1,x2,x3)))
   generalize W4.setCell ⟨wr.heap.size,1,none⟩ (.int .i64 (plc (x1,x2,x3)))=W5 at *
   clear m0 mf HM4
   obtain⟨x0,x1c,x2c,x3c⟩:=HCF.out W5 (HBC.out _ _ _ _ HM5.out)
   obtain⟨y0,y1c,y2c,y3c⟩:=HCT.out W5 (HBC.out _ _ _ _ HM5.out)
   go_quiet (fail)
   have HM6:=zh (HM5.out.drewN nq)
   generalize W5.drewN nq=W6 at *
   clear x0 x1c x2c x3c y0 y1c y2c y3c HM5
   go_upto_region 15 with fail
   obtain⟨y0,y1c,y2c,y3c⟩:=HCT.out W6 (HBC.out _ _ _ _ HM6.out)
   have m0:=HM6.out.c0
   have mf:=HM6.out.free 0
   go_quiet (fail)
   have HM7:=zh (HM6.out.drewN nq)
   generalize W6.drewN nq=W7 at *
   clear y0 y1c y2c y3c m0 mf HM6
   go_upto_region 18 with fail
   have HBE:=zh (HBC.out _ _ _ _ HM7.out)
   have HOE:=zh (z07 HO.out HM7.out.bel)
   obtain⟨A,hA⟩:∃ A:Int,plc (x1,x2,x3)=A:=⟨_,rfl⟩
   obtain⟨B,hB⟩:∃ B:Int,(-1)=B:=⟨_,rfl⟩
   by_cases hAB:A=B
   case pos =>
    have hne:(plc (x1,x2,x3) != (-1))=false:=by rw [hA,hB,hAB];simp
    have HM2:=zh (HMI.out.no HEQ.out (by rw [HPF.out,HPT.out,hA,hB];exact hAB))
    have m1:=HM7.out.c1
    have m2:=HM7.out.c2
    clear HM7 HMI HEQ HPF HPT hA hB HO
    go_wp2_with fail
    all_goals
     refine⟨zh ⟨i+1,k,out,by omega,by omega,by go_num,by go_num,HOE.out,HM2.out,HOR.out,by omega,HBE.out⟩,?_⟩
     simp [intOf];omega
   case neg =>
    have hne:(plc (x1,x2,x3) != (-1))=true:=by rw [hA,hB];simpa using hAB
    have HM2:=zh (HMI.out.yes HEQ.out (by rw [HPF.out,HPT.out,hA,hB];exact hAB))
    have HMC:Hid (movCells f t (out++[xp])=movCells f t out++[.string xp,.int .i64 (plc (x1,x2,x3)),.int .i64 ((-1))]):=zh (by rw [z12];unfold movC;rw [HPF.out,HPT.out])
    have m0:=HM7.out.c0
    have m1:=HM7.out.c1
    have m2:=HM7.out.c2
    clear HMI HEQ HPF HPT hA hB HO
    have hbq:=belQ W7 (.cells #[.string xp,.int .i64 (plc (x1,x2,x3)),.int .i64 ((-1))] 68)
    have HN9:=zh (zn W7 (.cells #[.string xp,.int .i64 (plc (x1,x2,x3)),.int .i64 ((-1))] 68))
    have HO9:=zh (z07 HOE.out hbq)
    have HB9:=zj HBE hbq
    have hsz9:w.heap.size≤(W7.alloc (.cells #[.string xp,.int .i64 (plc (x1,x2,x3)),.int .i64 ((-1))] 68)).heap.size:=HB9.out.size
    clear hbq HM7 HOE HBE
    go_wp2_with (at_builtin;refine wpList_append_own _ rfl _ _ 64 rfl w.heap.size 68 i0 _ 3 32 underlying64 hi0' hz0 hz1 hz2 rfl (by decide) (.slice oa out.length oc) out.length _ (by rfl) HO9.out ⟨W7.heap.size,0,none⟩ 1 1 [.string xp,.int .i64 (plc (x1,x2,x3)),.int .i64 ((-1))] (by rfl) (by rfl) (World.news_of_block HN9.out) (by simp [Value.oneCell']) (by unfold maxLen;omega) (by omega) hsz9 ?_;intro v' wB hown' hgrow _;have HOW:=zh hown';have HGR:=zh hgrow;clear hown' hgrow;obtain⟨g9,gc9,rfl⟩:=ownsRow_succ HOW.out)
    all_goals
     have HB10:=zh (HB9.out.grown HGR.out hsz9 (fun b hb=>(z0g HO9.out b hb).1))
     have HOL:Hid (wB.ownsRow w.heap.size 68 3 (.slice (some ⟨g9,0,none⟩) (out.length+1) gc9) (out++[xp]).length (movCells f t (out++[xp]))):=zh (by rw [HMC.out,List.length_append];exact HOW.out)
     refine⟨zh ⟨i+1,k,out++[xp],by omega,by omega,by go_num,by go_num,HOL.out,HM2.out,HOR.out,by rw [List.length_append,List.length_singleton];omega,HB10.out⟩,?_⟩
     simp [intOf];omega
  | false =>
   have hlg:ltB t[k].1 f[i].1=true:=by
    cases hg:ltB t[k].1 f[i].1 with
    | true=>rfl
    | false=>exact absurd (z2i hlt hg) he
   have HEQ:=zh (zeq hli hlk he hlt)
   have HOR:=zh (HOI.out.gt HFI.out (fun h=>by rw [z0x hli,z0x hlk];exact hlg))
   have HPT:=zh (z41 HTI.out hlk)
   have HPF:Hid (plcS f t[k].1=-1):=zh (z4t (by
    have h:=HOI.out.swap.none HFI.out hlk (fun h=>by rw [z0x hli,z0x hlk];exact hlg)
    rwa [z0x hlk]at h))
   have hbl:Op.bytesLess f[i].1.toList t[k].1.toList=false:=hlt
   clear hle hlt hlg
   generalize f[i]=x at *
   generalize t[k]=y at *
   obtain⟨xp,x1,x2,x3⟩:=x
   obtain⟨yp,y1,y2,y3⟩:=y
   simp only at hcf hct HEQ HPT HPF HVX HVY he hbl
   have HCF:=zh hcf
   have HCT:=zh hct
   have hpb:(xp.toList == yp.toList)=false:=by rw [z0q];exact decide_eq_false he
   have hpb2:(yp.toList == xp.toList)=false:=by rw [z0q];exact decide_eq_false (fun e=>he e.symm)
   have hsd:decide (((xp,x1,x2,x3):SelL)=(yp,y1,y2,y3))=false:=decide_eq_false (fun e=>he (congrArg Prod.fst e))
   have hsq:=fun W=>seleq44 xp yp x1 x2 x3 y1 y2 y3 W
   rw [hsd]at hsq
   clear hct hcf he hsd
   go_upto_region 7 with fail
   generalize wr.alloc (.cells #[.string ⟨#[]⟩,.int .i64 (-1),.int .i64 (-1)] 68)=W0 at *
   obtain⟨x0,x1c,x2c,x3c⟩:=HCF.out W0 (HBC.out _ _ _ _ HM0.out)
   obtain⟨y0,y1c,y2c,y3c⟩:=HCT.out W0 (HBC.out _ _ _ _ HM0.out)
   have m0:=HM0.out.c0
   have mf:=HM0.out.free 0
   go_quiet (fail)
   have HM1:=zh (HM0.out.drewN nq)
   generalize W0.drewN nq=W1 at *
   clear x0 x1c x2c x3c y0 y1c y2c y3c m0 mf HM0
   obtain⟨x0,x1c,x2c,x3c⟩:=HCF.out W1 (HBC.out _ _ _ _ HM1.out)
   obtain⟨y0,y1c,y2c,y3c⟩:=HCT.out W1 (HBC.out _ _ _ _ HM1.out)
   have m0:=HM1.out.c0
   have mf:=HM1.out.free 0
   go_upto_region 11 with fail
   have HM2:=zh (HM1.out.path (q:=yp))
   generalize W1.setCell ⟨wr.heap.size,0,none⟩ (.string yp)=W2 at *
   clear x0 x1c x2c x3c y0 y1c y2c y3c m0 mf HM1
   obtain⟨x0,x1c,x2c,x3c⟩:=HCF.out W2 (HBC.out _ _ _ _ HM2.out)
   obtain⟨y0,y1c,y2c,y3c⟩:=HCT.out W2 (HBC.out _ _ _ _ HM2.out)
   have m0:=HM2.out.c0
   have mf:=HM2.out.free 0
   go_quiet (fail)
   have HM3:=zh (HM2.out.drewN nq)
   generalize W2.drewN nq=W3 at *
   clear x0 x1c x2c x3c y0 y1c y2c y3c m0 mf HM2
   go_upto_region 15 with fail
   obtain⟨y0,y1c,y2c,y3c⟩:=HCT.out W3 (HBC.out _ _ _ _ HM3.out)
   have m0:=HM3.out.c0
   have mf:=HM3.out.free 0
   go_quiet (fail)
   have HM4:=zh (HM3.out.drewN nq)
   generalize W3.drewN nq=W4 at *
   clear y0 y1c y2c y3c m0 mf HM3
   go_upto_region 16 with fail
   obtain⟨y0,y1c,y2c,y3c⟩:=HCT.out W4 (HBC.out _ _ _ _ HM4.out)
   have HPC:=zh (place44 y1 y2 y3 W4 HVY.out)
   go_wp2_with fail
   refine HPC.out.mono ?_
   rintro e W5 ⟨rfl,hbp⟩
   have HM5:=zh (HM4.out.below hbp)
   clear hbp HPC
   clear y0 y1c y2c y3c HM4
   have m0:=HM5.out.c2
   have mf:=HM5.out.free 2
   go_upto_region 17 with fail
   have HM6:=zh (HM5.out.two (c:=plc (y1,y2,y3)))
   generalize W5.setCell ⟨wr.heap.size,2,none⟩ (.int .i64 (plc (y1,y2,y3)))=W6 at *
   clear m0 mf HM5
   go_upto_region 18 with fail
   have HBE:=zh (HBC.out _ _ _ _ HM6.out)
   have HOE:=zh (z07 HO.out HM6.out.bel)
   obtain⟨A,hA⟩:∃ A:Int,(-1)=A:=⟨_,rfl⟩
   obtain⟨B,hB⟩:∃ B:Int,plc (y1,y2,y3)=B:=⟨_,rfl⟩
   by_cases hAB:A=B
   case pos =>
    have hne:((-1) != plc (y1,y2,y3))=false:=by rw [hA,hB,hAB];simp
    have HM2:=zh (HMI.out.no HEQ.out (by rw [HPF.out,HPT.out,hA,hB];exact hAB))
    have m1:=HM6.out.c1
    have m2:=HM6.out.c2
    clear HM6 HMI HEQ HPF HPT hA hB HO
    go_wp2_with fail
    all_goals
     refine⟨zh ⟨i,k+1,out,by omega,by omega,by go_num,by go_num,HOE.out,HM2.out,HOR.out,by omega,HBE.out⟩,?_⟩
     simp [intOf];omega
   case neg =>
    have hne:((-1) != plc (y1,y2,y3))=true:=by rw [hA,hB];simpa using hAB
    have HM2:=zh (HMI.out.yes HEQ.out (by rw [HPF.out,HPT.out,hA,hB];exact hAB))
    have HMC:Hid (movCells f t (out++[yp])=movCells f t out++[.string yp,.int .i64 ((-1)),.int .i64 (plc (y1,y2,y3))]):=zh (by rw [z12];unfold movC;rw [HPF.out,HPT.out])
    have m0:=HM6.out.c0
    have m1:=HM6.out.c1
    have m2:=HM6.out.c2
    clear HMI HEQ HPF HPT hA hB HO
    have hbq:=belQ W6 (.cells #[.string yp,.int .i64 ((-1)),.int .i64 (plc (y1,y2,y3))] 68)
    have HN9:=zh (zn W6 (.cells #[.string yp,.int .i64 ((-1)),.int .i64 (plc (y1,y2,y3))] 68))
    have HO9:=zh (z07 HOE.out hbq)
    have HB9:=zj HBE hbq
    have hsz9:w.heap.size≤(W6.alloc (.cells #[.string yp,.int .i64 ((-1)),.int .i64 (plc (y1,y2,y3))] 68)).heap.size:=HB9.out.size
    clear hbq HM6 HOE HBE
    go_wp2_with (at_builtin;refine wpList_append_own _ rfl _ _ 64 rfl w.heap.size 68 i0 _ 3 32 underlying64 hi0' hz0 hz1 hz2 rfl (by decide) (.slice oa out.length oc) out.length _ (by rfl) HO9.out ⟨W6.heap.size,0,none⟩ 1 1 [.string yp,.int .i64 ((-1)),.int .i64 (plc (y1,y2,y3))] (by rfl) (by rfl) (World.news_of_block HN9.out) (by simp [Value.oneCell']) (by unfold maxLen;omega) (by omega) hsz9 ?_;intro v' wB hown' hgrow _;have HOW:=zh hown';have HGR:=zh hgrow;clear hown' hgrow;obtain⟨g9,gc9,rfl⟩:=ownsRow_succ HOW.out)
    all_goals
     have HB10:=zh (HB9.out.grown HGR.out hsz9 (fun b hb=>(z0g HO9.out b hb).1))
     have HOL:Hid (wB.ownsRow w.heap.size 68 3 (.slice (some ⟨g9,0,none⟩) (out.length+1) gc9) (out++[yp]).length (movCells f t (out++[yp]))):=zh (by rw [HMC.out,List.length_append];exact HOW.out)
     refine⟨zh ⟨i,k+1,out++[yp],by omega,by omega,by go_num,by go_num,HOL.out,HM2.out,HOR.out,by rw [List.length_append,List.length_singleton];omega,HB10.out⟩,?_⟩
     simp [intOf];omega
end Go.Proofs.YtapbhoodgnmnkaaGreatDoor
