/- Laws and contracts. -/
import Derived.Test.YtapbhoodgnmnkaaGreatDoorJI
import Derived.Laws.CopyOwn
set_option linter.unusedVariables false
set_option linter.unusedSimpArgs false
set_option maxRecDepth 100000
set_option maxHeartbeats 32000000
namespace Go.Proofs.YtapbhoodgnmnkaaGreatDoor
open Go.Proofs.Tryz Go Go.RowKit Go.Maps Go.Shelf Go.Lib
def cloRenL:Ren:=⟨fun _=>82,fun x=>if x=22 then 26 else if x=23 then 53 else 4,fun x=>x⟩
theorem cloLaysL:SlLaysE0.n41 prog cloRenL:={
 mixed:=by kernel_rfl
 f41:=⟨Tryz.f82.name,by decide,func82.trans (congrArg some (by kernel_rfl))⟩
 t4:=underlying4
 a4:=isAgg4
 z4:=sizeOf4
 v4:=zeroValue4
 t22:=underlying26
 a22:=isAgg26
 z22:=sizeOf26
 v22:=zeroValue26 }
theorem zfa {B b off cap:Nat}{l:List SelL}{W:World}(h:SelsOf B (.slice (some ⟨b,off,none⟩) l.length cap) l W):∀ j u,(selCells l)[j]? = some u→W.cell? ⟨b,off+j,none⟩=some u:=fun j u hu=>by
 have hj:=(zc hu)
 rw [z0p]at hj
 obtain⟨ao,c,e,h⟩:=h
 cases e
 have hi:j / 4<l.length:=by omega
 obtain⟨b',off',e,_,h0,h1,h2,h3⟩:=h (j / 4) l[j / 4] (by simp [hi])
 cases e
 have hr:j % 4<4:=Nat.mod_lt _ (by omega)
 have hat:=z33 (l:=l) hi hr
 rw [show j / 4*4+j % 4=j by omega,hu,zg,ze hi]at hat
 simp only [Option.getD_some]at hat
 have ej:off+j=off+j / 4*4+j % 4:=by omega
 rw [ej]
 rcases(show j % 4=0∨j % 4=1∨j % 4=2∨j % 4=3 by omega)with e | e | e | e
 ·rw [e]at hat ⊢;rw [Nat.add_zero,h0];exact hat.symm
 ·rw [e]at hat ⊢;rw [h1];exact hat.symm
 ·rw [e]at hat ⊢;rw [h2];exact hat.symm
 ·rw [e]at hat ⊢;rw [h3];exact hat.symm
theorem z5z (l:List SelL):∀ u∈selCells l,u.oneCell'=true:=fun u hu=>by
 unfold selCells at hu
 obtain⟨x,_,hx⟩:=List.mem_flatMap.1 hu
 simp [selC]at hx
 rcases hx with rfl | rfl | rfl | rfl<;>rfl
theorem z2b (a b:List SelL):selCells (a++b)=selCells a++selCells b:=by unfold selCells;rw [List.flatMap_append]
theorem zfp (v:Value)(s:List SelL)(w:World)(hs:s.length≤1000000)(hS:SelsOf w.heap.size v s w) :
  Calls prog 82 #[v] w fun e w'=>∃ v',e=.returned v'∧w'.ownsRow w.heap.size 53 4 v' s.length (selCells s)∧Below w.heap.size w w':=by
 by_cases h0:s=[]
 ·subst h0
  obtain⟨ao,cap,rfl,h⟩:=hS
  clear h hs
  cases ao with
  | none =>
   refine(AnyE.slices_Clone_nil cloLaysL 0 cap w).mono ?_
   rintro e w' ⟨rfl,rfl⟩
   exact⟨_,rfl,World.ownsRow_nil _ _ _ _,Below.refl _ _⟩
  | some a =>
   have hq:(binOp .eql 26 (.slice (some a) 0 cap) (.slice none 0 0)).run prog w=.ok (.bool false) w:=Lib.run_eql_slice_nil w _ _ (some a) 0 cap 0 0 underlying26
   go_enter func82,ntmps82
   go_wp2_with fail
   go_ret
   exact⟨_,rfl,⟨rfl,.inr ⟨w.heap.size,0,#[],rfl,zq _,zn _ _,zq _,by decide,rfl,rfl⟩⟩,belQ _ _⟩
 ·have hp:0<s.length:=List.length_pos_iff.2 h0
  have hS2:=hS
  obtain⟨ao,cap,rfl,h⟩:=hS
  obtain⟨b,off,rfl,_⟩:=h 0 s[0] (by simp [hp])
  obtain⟨i0,hi,hz0,hz1,hz2⟩:=info_parts z9u
  refine AnyE.slices_Clone cloLaysL i0 _ 4 40 hi hz0 hz1 hz2 rfl (by decide) sizeOf53 b off s.length cap (selCells s) w (z0p s) (by unfold maxLen;omega) (by omega) (zfa hS2) (z5z s) |>.mono ?_
  rintro e w' ⟨v',rfl,h1,_,h2⟩
  exact⟨v',rfl,h1,h2⟩
theorem z0h {w:World}{ops:Array Oper}{rest:List Oper}{o:Oper}{a:Act}{Q:Exit→Act→World→Prop}(hgd:o.guard=none)(s x:Operand)
  (ho:o.op=.call { callee:=.builtin .append,args:=#[s,x],argTypes:=#[26,26] })
  (base:Nat) (v:Value) (n:Nat) (L:List SelL) (hs:a.eval s=v) (hown:w.ownsRow base 53 4 v n (selCells L)) (r:Value) (M:List SelL) (hx:a.eval x=r) (hM:SelsOf w.heap.size r M w)
  (hb:n+M.length≤100000000) (hbase:base≤w.heap.size)
  (h:∀ v' w',w'.ownsRow base 53 4 v' (n+M.length) (selCells (L++M))→w.grownBy w' v.ownBlock→wpList prog ops Q rest (a.put o.dst v') w'):wpList prog ops Q (o::rest) a w:=by
 obtain⟨i0,hi,hz0,hz1,hz2⟩:=info_parts z9u
 have hM2:=hM
 obtain⟨ao,cap,rfl,hE⟩:=hM
 cases ao with
 | none =>
  have h0:M=[]:=by
   cases M with
   | nil=>rfl
   | cons y M=>obtain⟨b,off,h1,_⟩:=hE 0 y rfl;cases h1
  subst h0
  refine wpList_plain hgd fun K hK=>?_
  have hrun:=z2a (P:=prog) (w:=w) base 26 o.type 53 i0 4 underlying26 hi v n _ hown cap
  unfold Oper.wp
  simp [execOp,ho,resolve,invoke,builtin,hs,hx,hrun,Result.andThen]
  exact hK _ _ (h v w (by simpa using hown) (World.grownBy.refl w _))
 | some ad =>
  refine wpList_append_own _ hgd s x 26 ho base 53 i0 _ 4 40 underlying26 hi hz0 hz1 hz2 rfl (by decide) v n _ hs hown ad M.length cap (selCells M) hx (z0p M) (fun j u hu=>?_) (z5z M) (by unfold maxLen;omega) (by omega) hbase (fun v' w' h2 h3 _=>h v' w' (by rw [z2b];exact h2) h3)
  have hj:=(zc hu)
  rw [z0p]at hj
  obtain⟨b,off,h1,_⟩:=hE 0 M[0] (by simp)
  cases h1
  rw [Addr.add_lit]
  exact zfa hM2 j u hu
def MovesOf (B:Nat)(v:Value)(f t:List SelL)(l:List ByteArray)(W:World):Prop :=
 ∃ ao cap,v=.slice ao l.length cap∧∀ i p,l[i]? = some p→∃ b off,ao=some ⟨b,off,none⟩∧b<B∧W.cell? ⟨b,off+i*3,none⟩=some (.string p)∧W.cell? ⟨b,off+i*3+1,none⟩=some (intC (plcS f p))∧W.cell? ⟨b,off+i*3+2,none⟩=some (intC (plcS t p))
def movC (f t:List SelL)(p:ByteArray):List Value:=[.string p,intC (plcS f p),intC (plcS t p)]
def movCells (f t:List SelL)(l:List ByteArray):List Value:=l.flatMap (movC f t)
theorem z5r (f t:List SelL):∀ l:List ByteArray,(movCells f t l).length=l.length*3
 | []=>rfl
 | p::l=>by
  have ih:=z5r f t l
  unfold movCells at ih ⊢
  rw [List.flatMap_cons,List.length_append,ih]
  simp [movC]
  omega
theorem z7b {f t:List SelL}:∀ {l:List ByteArray}{i:Nat}{p:ByteArray},l[i]? = some p→∀ j,j<3→(movCells f t l)[i*3+j]? = (movC f t p)[j]?
 | [],i,p,h,_,_=>by simp at h
 | q::l,0,p,h,j,hj=>by
  cases h
  unfold movCells
  rw [List.flatMap_cons,Nat.zero_mul,Nat.zero_add,List.getElem?_append_left (by simpa [movC]using hj)]
 | q::l,i+1,p,h,j,hj=>by
  have ih:=z7b (f:=f) (t:=t) (l:=l) (i:=i) (p:=p) (by simpa using h) j hj
  unfold movCells at ih ⊢
  rw [List.flatMap_cons,List.getElem?_append_right (by simp [movC];omega)]
  simp only [movC,List.length_cons,List.length_nil]at ih ⊢
  rw [← ih]
  congr 1
  omega
theorem z12 (f t:List SelL)(l:List ByteArray)(p:ByteArray):movCells f t (l++[p])=movCells f t l++movC f t p:=by unfold movCells;rw [List.flatMap_append];simp
theorem zbx {f t:List SelL}{W:World}{B:Nat}{v:Value}{l:List ByteArray}(h:W.ownsRow B 68 3 v l.length (movCells f t l)):MovesOf W.heap.size v f t l W:=by
 have hxl:=z5r f t l
 obtain⟨hl,⟨rfl,h0⟩ | ⟨g,cap,cur,rfl,h1,h2,h3,h4,h5,h6⟩⟩:=h
 ·obtain rfl:=List.length_eq_zero_iff.1 h0
  exact⟨none,0,rfl,fun i q hq=>by simp at hq⟩
 ·refine⟨_,cap,rfl,fun i q hq=>?_⟩
  have hi:=(zc hq)
  have key:∀ j u,j<3→(movC f t q)[j]? = some u→W.cell? ⟨g,0+i*3+j,none⟩=some u:=fun j u hj hu=>by
   have hu2:=z7b (f:=f) (t:=t) hq j hj
   rw [hu]at hu2
   rw [zw _ _ _ _ _ _ h2,← hu2,← h6,List.getElem?_take,if_pos (by omega)]
   simp
  exact⟨g,0,rfl,(zb h2),key 0 _ (by omega) rfl,key 1 _ (by omega) rfl,key 2 _ (by omega) rfl⟩
theorem zel:(prog.info? 68).map (fun i=>(i.zero,i.size,i.bytes))=some (some (.agg #[.string ⟨#[]⟩,.int .i64 0,.int .i64 0]),3,32):=by kernel_rfl
theorem z1z:(prog.info? 9).map (fun i=>(i.zero,i.size,i.bytes))=some (some (Value.string ⟨#[]⟩),1,16):=by kernel_rfl
theorem z1v (l:List ByteArray)(p:ByteArray):strsC (l++[p])=strsC l++[.string p]:=by unfold strsC;rw [List.map_append];rfl
theorem z7f {W:World}{B:Nat}{ao:Option Addr}{n c:Nat}{l:List ByteArray}(h:W.ownsRow B 9 1 (.slice ao n c) n (strsC l)){k:Nat}{p:ByteArray}(hk:l[k]? = some p):∃ g,ao=some ⟨g,0,none⟩∧g<W.heap.size∧W.cell? ⟨g,k,none⟩=some (.string p):=by
 have hu:(strsC l)[k]? = some (.string p):=by unfold strsC;rw [List.getElem?_map,hk];rfl
 obtain⟨hl,⟨e,h0⟩ | ⟨g,cap,cur,e,h1,h2,h3,h4,h5,h6⟩⟩:=h
 ·cases e
  have:=(zc hu)
  omega
 ·cases e
  refine⟨g,rfl,(zb h2),?_⟩
  have hkl:=(zc hu)
  rw [zw _ _ _ _ _ _ h2,← hu,← h6,List.getElem?_take,if_pos (by omega)]
  simp
def movK (f t:List SelL)(C:List ByteArray)(k:Nat):List ByteArray:=(C.take k).filter fun p=>decide (plcS f p≠plcS t p)
theorem zkn (f t:List SelL)(C:List ByteArray)(k:Nat):(movK f t C k).length≤k:=Nat.le_trans (List.length_filter_le _ _) (by rw [List.length_take];omega)
theorem zko {f t:List SelL}{C:List ByteArray}{k:Nat}(hk:k<C.length)(h:plcS f C[k]≠plcS t C[k]):movK f t C (k+1)=movK f t C k++[C[k]]:=by
 unfold movK
 rw [zs hk,List.filter_append,List.filter_cons_of_pos (by simpa using h),List.filter_nil]
theorem zm6 {f t:List SelL}{C:List ByteArray}{k:Nat}(hk:k<C.length)(h:plcS f C[k]=plcS t C[k]):movK f t C (k+1)=movK f t C k:=by
 unfold movK
 rw [zs hk,List.filter_append,List.filter_cons_of_neg (by simpa using h),List.filter_nil,List.append_nil]
theorem zgz (fv tv:Value)(f t:List SelL)(w:World)(hf:f.length≤1000000)(ht:t.length≤1000000)(hfi:incrS f)(hti:incrS t)(hfv:∀ y∈f,validB y.2.1 y.2.2.1 y.2.2.2=true)(htv:∀ y∈t,validB y.2.1 y.2.2.1 y.2.2.2=true)
  (hfp:∀ y∈f,y.1.size≤maxLen) (htp:∀ y∈t,y.1.size≤maxLen) (hF:SelsOf w.heap.size fv f w) (hT:SelsOf w.heap.size tv t w) :
  Calls prog 54 #[fv,tv] w fun e w'=>∃ v,e=.returned (.tuple #[v,.int .i64 0])∧MovesOf w'.heap.size v f t (movesP f t) w'∧Below w.heap.size w w':=by
 have HPF:=zh (z8r fv f w hf hfi hfv hfp hF)
 have HPT:=zh (fun W (hb:Below w.heap.size w W)=>z8r tv t W ht hti htv htp (hT.on hb))
 have HCL:=zh (fun W (hb:Below w.heap.size w W)=>zfp fv f W hf (hF.on hb))
 have HTT:=zh hT
 have HAL:Hid (allP f t=(movesP f t++[])∨True):=zh (.inr trivial)
 have HIA:=zh (z9i hfi hti)
 have HPS:Hid (∀ p∈allP f t,p.size≤maxLen):=zh (fun p hp=>by
  rcases z68.1 hp with h | h
  ·obtain⟨y,hy⟩:=Option.ne_none_iff_exists'.1 h
   rw [← (z02 hy).2];exact hfp _ (z02 hy).1
  ·obtain⟨y,hy⟩:=Option.ne_none_iff_exists'.1 h
   rw [← (z02 hy).2];exact htp _ (z02 hy).1)
 have HMM:Hid (∀ p,p∈allP f t ↔ p∈(f++t).map (·.1)):=zh (fun p=>by unfold allP;rw [z16,List.map_append,List.mem_append])
 have HMV:Hid (movesP f t=movK f t (allP f t) (allP f t).length):=zh (by unfold movesP movK;rw [List.take_length])
 obtain⟨fa,fc,rfl⟩:=zo hF
 obtain⟨ta,tc,rfl⟩:=zo hT
 clear hfi hti hfv htv hfp htp hF hT HAL
 go_enter func54,ntmps54
 go_wp2_with fail
 refine HPF.out.mono ?_
 rintro e w1 ⟨rfl,⟨f1,hm1,hp1⟩,hb1⟩
 have HB1:=zh hb1
 have HM1:=zh hm1
 have HP1:=zh hp1
 clear hm1 hp1 hb1 HPF
 go_wp2_with fail
 refine(HPT.out w1 HB1.out).mono ?_
 rintro e w2 ⟨rfl,⟨f2,hm2,hp2⟩,hb2⟩
 have HB2:=zj HB1 hb2
 have HM2:=zh hm2
 have HP2:=zh hp2
 have HM1b:=zh (HM1.out.below hb2)
 obtain⟨m1,hm1⟩:∃ m1,w.heap.size=m1:=⟨_,rfl⟩
 obtain⟨m2,hm2⟩:∃ m2,w1.heap.size=m2:=⟨_,rfl⟩
 rw [hm1]at HM1b
 rw [hm2]at HM2
 have HE1:=zh hm1
 have HE2:=zh hm2
 simp only [hm1,hm2]
 clear hm1 hm2 hp2 hb2 HPT HB1 HM1
 go_wp2_with fail
 refine(HCL.out w2 HB2.out).mono ?_
 rintro e w3 ⟨v3,rfl,ho3,hb3⟩
 have HO3:=zh ho3
 have HB3:=zj HB2 hb3
 have HBB3:=zh hb3
 have HM1c:=zh (HM1b.out.below hb3)
 have HM2c:=zh (HM2.out.below hb3)
 have HT3:=zh (HTT.out.on HB3.out)
 have hz3:w2.heap.size≤w3.heap.size:=hb3.size
 have hfl:f.length+t.length≤100000000:=by omega
 have hm1l:m1<w2.heap.size:=HM1b.out.lt
 have hm2l:m2<w2.heap.size:=HM2.out.lt
 clear ho3 hb3 HCL HM1b HM2
 obtain⟨ca,cc,rfl⟩:=z05 HO3.out
 obtain⟨A,hA⟩:∃ A,f++t=A:=⟨_,rfl⟩
 have HAA:=zh hA
 have hal:f.length+t.length=A.length:=by rw [← hA,List.length_append]
 have HAL:=zh hal
 have haz:A.length≤100000000:=by rw [← hal];exact hfl
 clear hA hal
 go_wp2_with (at_builtin;refine z0h rfl _ _ rfl w2.heap.size (.slice ca f.length cc) f.length f (by rfl) HO3.out (.slice ta t.length tc) t (by rfl) HT3.out hfl hz3 ?_;intro v4 w4 hown4 hgrow4;rw [HAA.out,HAL.out]at hown4;have HO4:=zh hown4;have HG4:=zh hgrow4;clear hown4 hgrow4;obtain⟨da,dc,rfl⟩:=z05 HO4.out)
 have HB4:Hid (Below w.heap.size w w4):=zh (HB3.out.grown HG4.out HB3.out.size (fun b hb=>by have:=(z0g HO3.out b hb).1;have:=HB2.out.size;omega))
 have HM1d:=zh (HM1c.out.kept HG4.out (fun e=>by have:=(z0g HO3.out _ e.symm).1;omega))
 have HM2d:=zh (HM2c.out.kept HG4.out (fun e=>by have:=(z0g HO3.out _ e.symm).1;omega))
 have HS4:=zh (za4 HO4.out)
 have hz4:m1<w4.heap.size∧m2<w4.heap.size:=⟨HM1d.out.lt,HM2d.out.lt⟩
 clear HO3 HG4 HM1c HM2c HT3 HB3 HBB3 hz3 hfl hm1l hm2l HB2
 obtain⟨s0,hs0,hsz0,hsz1,hsz2⟩:=info_parts z1z
 obtain⟨i0,hi0,hiz0,hiz1,hiz2⟩:=info_parts zel
 go_loopw [10,39] (fun ov p wr=>Hid (∃ (k:Nat),k≤A.length∧p=.int .i64 (k:Int)∧wr.ownsRow w4.heap.size 9 1 ov k (strsC ((A.take k).map (·.1)))∧Below w4.heap.size w4 wr)) (fun _ p _=>A.length - (intOf p).toNat)
 case atStart=>exact zh ⟨0,Nat.zero_le _,rfl,by simpa [strsC]using World.ownsRow_nil _ _ _ _,Below.refl _ _⟩
 case round =>
  obtain⟨k,hk,rfl,ho,hb⟩:=hrel.out
  have HO:=zh ho
  have HB:=zh hb
  obtain⟨oa,oc,rfl⟩:=z05 ho
  clear hrel ho hb
  have hs8:=HB.out.size
  by_cases hlt:k<A.length
  case pos =>
   have hk0:(0:Int)≤(k:Int):=Int.natCast_nonneg k
   have hkz:(k:Int)<(A.length:Int):=Int.ofNat_lt.2 hlt
   obtain⟨b,off,rfl,hbl,d0,d1,d2,d3⟩:=HS4.out.at hlt
   have hyk:A.getD k default=A[k]:=by rw [zg,ze hlt];rfl
   rw [hyk]at d0 d1 d2 d3
   have HTK:Hid (strsC ((A.take (k+1)).map (·.1))=strsC ((A.take k).map (·.1))++[.string A[k].1]):=zh (by rw [zs hlt,List.map_append];exact z1v _ _)
   have d0:=(HB.out.cell (p:=⟨b,off+k*4,none⟩) hbl).trans d0
   have d1:=(HB.out.cell (p:=⟨b,off+k*4+1,none⟩) hbl).trans d1
   have d2:=(HB.out.cell (p:=⟨b,off+k*4+2,none⟩) hbl).trans d2
   have d3:=(HB.out.cell (p:=⟨b,off+k*4+3,none⟩) hbl).trans d3
   clear hyk
   generalize A[k]=y at *
   have hbq:=belQ wr (.cells #[.string y.1,intC y.2.1,intC y.2.2.1,intC y.2.2.2] 53)
   have HN1:=zh (zn wr (.cells #[.string y.1,intC y.2.1,intC y.2.2.1,intC y.2.2.2] 53))
   have HB1:=zh (HB.out.trans (hbq.mono hs8))
   have HO1:=zh (z07 HO.out hbq)
   clear hbq
   go_upto_region 9 with fail
   generalize wr.alloc (.cells #[.string y.1,intC y.2.1,intC y.2.2.1,intC y.2.2.2] 53)=W1 at *
   obtain⟨gy,hgy⟩:∃ gy,wr.heap.size=gy:=⟨_,rfl⟩
   rw [hgy]at HN1
   simp only [hgy]
   clear hgy d0 d1 d2 d3
   have y0:W1.cell? ⟨gy,0,none⟩=some (.string y.1):=zw _ _ 0 _ _ _ HN1.out
   have hs9:=HB1.out.size
   have HN2:=zh (zn W1 (.cells #[.string y.1] 9))
   have HO2:=zh (z07 HO1.out (belQ W1 (.cells #[.string y.1] 9)))
   have HB2:=zh (HB1.out.trans ((belQ W1 (.cells #[.string y.1] 9)).mono hs9))
   have hs10:w4.heap.size≤(W1.alloc (.cells #[.string y.1] 9)).heap.size:=HB2.out.size
   go_wp2_with (at_builtin;refine wpList_append_own _ rfl _ _ 29 rfl w4.heap.size 9 s0 _ 1 16 underlying29 hs0 hsz0 hsz1 hsz2 rfl (by decide) (.slice oa k oc) k _ (by rfl) HO2.out ⟨W1.heap.size,0,none⟩ 1 1 [.string y.1] (by rfl) (by rfl) (World.news_of_block HN2.out) (by simp [Value.oneCell']) (by unfold maxLen;omega) (by omega) hs10 ?_;intro v' wB hown' hgrow _;have HOW:=zh hown';have HGR:=zh hgrow;clear hown' hgrow;obtain⟨g3,gc3,rfl⟩:=ownsRow_succ HOW.out)
   all_goals
    have HBE:=zh (HB2.out.grown HGR.out hs10 (fun b hb=>(z0g HO2.out b hb).1))
    refine⟨zh ⟨k+1,hlt,by go_num,by rw [HTK.out];exact HOW.out,HBE.out⟩,?_⟩
    simp [intOf];omega
  case neg =>
   have hkk:k=A.length:=Nat.le_antisymm hk (Nat.le_of_not_lt hlt)
   clear hk
   subst hkk
   have HOL:Hid (wr.ownsRow w4.heap.size 9 1 (.slice oa (A.map (·.1)).length oc) (A.map (·.1)).length (strsC (A.map (·.1)))):=zh (by rw [List.length_map];have:=HO.out;rwa [List.take_length]at this)
   have HSO:=zh (zch w4.heap.size (.slice oa (A.map (·.1)).length oc) (A.map (·.1)) wr HOL.out (by rw [List.length_map];omega))
   rw [List.length_map]at HSO HOL
   go_wp2_with fail
   refine HSO.out.mono ?_
   rintro e w5 ⟨rfl,l',hl',hll,hg5,ho5⟩
   rw [hll]at ho5
   have HL5:=zh hl'
   have HLL:=zh hll
   have HB5:=zh (HB.out.grown hg5 HB.out.size (fun b hb=>(z0g HOL.out b hb).1))
   have HCS:=zh (zaz w4.heap.size (.slice oa A.length oc) l' w5 (by rw [hll];exact ho5) (by rw [hll];omega))
   have HO5:=zh ho5
   clear hl' hll hg5 ho5 HSO HO
   go_wp2_with fail
   refine HCS.out.mono ?_
   rintro e w6 ⟨v6,l6,rfl,hl60,hle6,⟨xa,xc,rfl⟩,hg6,ho6⟩
   obtain⟨C,hC⟩:∃ C,allP f t=C:=⟨_,rfl⟩
   have hl6:l6=C:=by rw [hl60,HL5.out,← hC];exact zcg HIA.out (fun p=>by rw [HMM.out p,HAA.out])
   subst hl6
   clear hl60
   have hcl:l6.length≤100000000:=by have h:=HLL.out;omega
   rw [hC]at HPS HMV
   have HB6:=zh (HB5.out.grown hg6 HB5.out.size (fun b hb=>(z0g HO5.out b hb).1))
   have HO6:=zh ho6
   have hm1w:m1<w4.heap.size:=hz4.1
   have hm2w:m2<w4.heap.size:=hz4.2
   have HM1e:=zh (HM1d.out.below (HB6.out))
   have HM2e:=zh (HM2d.out.below (HB6.out))
   have hs6:=HB6.out.size
   have HBW6:Hid (Below w.heap.size w w6):=zh (HB4.out.trans (HB6.out.mono HB4.out.size))
   clear hle6 hg6 ho6 HCS HO5 HB5 HOL HL5 HLL HIA HMM HM1d HM2d HB hC hs8
   go_wp2_with fail
   go_loopw [14,54] (fun ov p wr=>Hid (∃ (k:Nat),k≤l6.length∧p=.int .i64 (k:Int)∧wr.ownsRow w6.heap.size 68 3 ov (movK f t l6 k).length (movCells f t (movK f t l6 k))∧Below w6.heap.size w6 wr)) (fun _ p _=>l6.length - (intOf p).toNat)
   case atStart=>exact zh ⟨0,Nat.zero_le _,rfl,World.ownsRow_nil _ _ _ _,Below.refl _ _⟩
   case round =>
    obtain⟨k,hk,rfl,ho,hb⟩:=hrel.out
    have HO:=zh ho
    have HB:=zh hb
    obtain⟨oa2,oc2,rfl⟩:=z05 ho
    clear hrel ho hb
    have hs8:=HB.out.size
    by_cases hlt:k<l6.length
    case neg =>
     have hkk:k=l6.length:=Nat.le_antisymm hk (Nat.le_of_not_lt hlt)
     clear hk
     subst hkk
     have HRE:Hid (MovesOf wr.heap.size (.slice oa2 (movK f t l6 l6.length).length oc2) f t (movesP f t) wr):=zh (by rw [HMV.out];exact zbx HO.out)
     have HBE:=zh (HBW6.out.trans (HB.out.mono HBW6.out.size))
     clear HO HMV
     generalize movK f t l6 l6.length=M at *
     go_wp2_with fail
     go_ret2
     exact⟨_,rfl,HRE.out,HBE.out⟩
    case pos =>
     have hk0:(0:Int)≤(k:Int):=Int.natCast_nonneg k
     have hkz:(k:Int)<(l6.length:Int):=Int.ofNat_lt.2 hlt
     obtain⟨g,e2,hgl,q0⟩:=z7f HO6.out (ze hlt)
     subst e2
     have q0:=(HB.out.cell (p:=⟨g,k,none⟩) hgl).trans q0
     have HYES:Hid (plcS f l6[k]≠plcS t l6[k]→movK f t l6 (k+1)=movK f t l6 k++[l6[k]]):=zh (zko hlt)
     have HNO:Hid (plcS f l6[k]=plcS t l6[k]→movK f t l6 (k+1)=movK f t l6 k):=zh (zm6 hlt)
     have hps:=HPS.out _ (List.getElem_mem hlt)
     have hml:=zkn f t l6 k
     generalize l6[k]=p at *
     have HC1:=zh (z8o f p m1 f1 wr (HM1e.out.below HB.out) HP1.out hps)
     have HC2:=zh (z8o t p m2 f2 wr (HM2e.out.below HB.out) HP2.out hps)
     have HMC:Hid (movC f t p=[.string p,intC (plcS f p),intC (plcS t p)]):=zh rfl
     generalize plcS f p=x at *
     generalize plcS t p=z at *
     have hbq:=belQ wr (.cells #[.string p,intC x,intC z] 68)
     have HN1:=zh (zn wr (.cells #[.string p,intC x,intC z] 68))
     have HB1:=zh (HB.out.trans (hbq.mono hs8))
     have HO1:=zh (z07 HO.out hbq)
     clear hbq
     go_upto_region 18 with (go_at_call 83;first | (with_reducible refine HC1.out.mono ?_;rintro e w' ⟨rfl,hww⟩;replace hww:=hww.symm;subst hww) | (with_reducible refine HC2.out.mono ?_;rintro e w' ⟨rfl,hww⟩;replace hww:=hww.symm;subst hww))
     generalize wr.alloc (.cells #[.string p,intC x,intC z] 68)=W1 at *
     obtain⟨gy,hgy⟩:∃ gy,wr.heap.size=gy:=⟨_,rfl⟩
     rw [hgy]at HN1
     try simp only [hgy]
     clear hgy q0
     have y0:W1.cell? ⟨gy,0,none⟩=some (.string p):=zw _ _ 0 _ _ _ HN1.out
     have y1:W1.cell? ⟨gy,1,none⟩=some (intC x):=zw _ _ 1 _ _ _ HN1.out
     have y2:W1.cell? ⟨gy,2,none⟩=some (intC z):=zw _ _ 2 _ _ _ HN1.out
     have hs9:=HB1.out.size
     by_cases hxz:x=z
     case pos =>
      have hb1:(x != z)=false:=by simpa using hxz
      have HN:=zh (HNO.out hxz)
      clear hxz HYES HNO
      go_wp2_with fail
      all_goals
       refine⟨zh ⟨k+1,hlt,by go_num,by rw [HN.out];exact HO1.out,HB1.out⟩,?_⟩
       simp [intOf];omega
     case neg =>
      have hb1:(x != z)=true:=by simpa using hxz
      have HY:=zh (HYES.out hxz)
      have HYL:Hid ((movK f t l6 (k+1)).length=(movK f t l6 k).length+1):=zh (by rw [HY.out,List.length_append];rfl)
      clear hxz HYES HNO
      have HN2:=zh (zn W1 (.cells #[.string p,intC x,intC z] 68))
      have HO2:=zh (z07 HO1.out (belQ W1 (.cells #[.string p,intC x,intC z] 68)))
      have HB2:=zh (HB1.out.trans ((belQ W1 (.cells #[.string p,intC x,intC z] 68)).mono hs9))
      have hs10:w6.heap.size≤(W1.alloc (.cells #[.string p,intC x,intC z] 68)).heap.size:=HB2.out.size
      generalize hK:movK f t l6 k=K at *
      clear hK
      go_wp2_with (at_builtin;refine wpList_append_own _ rfl _ _ 64 rfl w6.heap.size 68 i0 _ 3 32 underlying64 hi0 hiz0 hiz1 hiz2 rfl (by decide) (.slice oa2 K.length oc2) K.length _ (by rfl) HO2.out ⟨W1.heap.size,0,none⟩ 1 1 [.string p,intC x,intC z] (by rfl) (by rfl) (World.news_of_block HN2.out) (by simp [Value.oneCell']) (by unfold maxLen;omega) (by omega) hs10 ?_;intro v' wB hown' hgrow _;have HOW:=zh hown';have HGR:=zh hgrow;clear hown' hgrow;obtain⟨g3,gc3,rfl⟩:=ownsRow_succ HOW.out)
      all_goals
       have HBE:=zh (HB2.out.grown HGR.out hs10 (fun b hb=>(z0g HO2.out b hb).1))
       have HOE:Hid (wB.ownsRow w6.heap.size 68 3 (.slice (some ⟨g3,0,none⟩) (K.length+1) gc3) (movK f t l6 (k+1)).length (movCells f t (movK f t l6 (k+1)))):=zh (by rw [HYL.out,HY.out,z12,HMC.out];exact HOW.out)
       refine⟨zh ⟨k+1,hlt,by go_num,HOE.out,HBE.out⟩,?_⟩
       simp [intOf];omega
section
open Go.Proofs.Tryz Go
structure CompP (N:Nat)(es:List (Int×Int))(L:List (List Nat))(pos:Nat→Nat):Prop where
 part:PartP N es L pos
 same:∀ a b,a<N→b<N→(pos a=pos b ↔ Rch (sucs N es) a b∧Rch (sucs N es) b a)
theorem zjr {f t:List SelL}{X:List RelL}(cf:ConsP X f)(ct:ConsP X t):betV f t []=f:=by
 have h:=zh5 cf.incr cf.incr (m:=[]) cf cf (fun p hp=>by rw [zg3]at hp;cases hp)
 have key:∀ y,y∈betV f t [] ↔ y∈betV f f []:=fun y=>by rw [z21,z21,if_neg (by simp),if_neg (by simp)]
 have e:(betV f t []).map (·.1)=(betV f f []).map (·.1):=IncB.unique (z4l (z2x cf.incr ct.incr)) (z4l (z2x cf.incr cf.incr)) fun p=>by
  rw [List.mem_map,List.mem_map]
  exact⟨fun⟨y,hy,e⟩=>⟨y,(key y).1 hy,e⟩,fun⟨y,hy,e⟩=>⟨y,(key y).2 hy,e⟩⟩
 refine Eq.trans ?_ h
 have hl:(betV f t []).length=(betV f f []).length:=by have:=congrArg List.length e;simpa using this
 refine List.ext_getElem hl fun i h1 h2=>?_
 have e1:(betV f t [])[i].1=(betV f f [])[i].1:=by
  have:=congrArg (fun l:List ByteArray=>l[i]?) e
  simp only [List.getElem?_map,ze h1,ze h2,Option.map_some]at this
  exact Option.some.inj this
 exact z4m (z2x cf.incr cf.incr) ((key _).1 (List.getElem_mem h1)) (List.getElem_mem h2) e1
theorem zgu (X:List RelL)(f t:List SelL):(wavE X f t).Nodup:=by
 unfold wavE List.Nodup
 rw [List.pairwise_flatMap]
 refine⟨fun i _=>?_,List.pairwise_lt_range.imp fun {i j} hij x hx y hy e=>?_⟩
 ·rw [List.pairwise_filterMap]
  refine List.pairwise_lt_range.imp fun {a b} hab x hx y hy e=>?_
  split at hx
  ·split at hy
   ·cases hx
    cases hy
    have:=(Prod.mk.inj e).2
    omega
   ·cases hy
  ·cases hx
 ·obtain⟨a,_,ha⟩:=List.mem_filterMap.1 hx
  obtain⟨b,_,hb⟩:=List.mem_filterMap.1 hy
  split at ha
  ·split at hb
   ·cases ha
    cases hb
    have:=(Prod.mk.inj e).1
    omega
   ·cases hb
  ·cases ha
end
section
open Go.Proofs.Tryz Go Go.RowKit
abbrev OfT (S:List (List Nat))(node least:Nat):={ k:Nat // k∈ofL S node least }
def valsOf {S:List (List Nat)}{node least:Nat}(l:List (OfT S node least)):List Nat:=l.map (·.1)
theorem z37 {S:List (List Nat)}{node least:Nat}(l:List (OfT S node least))(x:OfT S node least):valsOf (l++[x])=valsOf l++[x.1]:=by simp [valsOf]
theorem z52 {S:List (List Nat)}{node least:Nat}(l:List (OfT S node least)):(valsOf l).length=l.length:=by simp [valsOf]
theorem zij {a a' b b':List Nat}(h:a <+: b)(ha:a=a')(hb:b=b'):a' <+: b':=by subst ha hb;exact h
theorem zkd {b b':List Nat}{n:Nat}(h:n<b.length)(hb:b=b'):n<b'.length:=by subst hb;exact h
theorem zki {b b':List Nat}{n:Nat}(h:n∈b)(hb:b=b'):n∈b':=by subst hb;exact h
def encOf {S:List (List Nat)}{node least:Nat}(x:OfT S node least):Array Value:=#[natC x.1]
theorem zd3 (p:Nat→Bool)(l:List Nat)(k:Nat)(h:k<l.length):(l.take (k+1)).filter p=if p l[k] then(l.take k).filter p++[l[k]] else(l.take k).filter p:=by
 rw [zs h,List.filter_append]
 by_cases hp:p l[k]<;>simp [hp]
theorem z6w (p:Nat→Bool)(l:List Nat)(k:Nat):(l.take k).filter p <+: l.filter p:=by
 obtain⟨t,ht⟩:=List.take_prefix k l
 refine⟨t.filter p,?_⟩
 conv=>rhs;rw [← ht]
 rw [List.filter_append]
attribute [local go_sem] Oper.semAt_some
theorem of1_in (n:Nat)(hn:1≤n)(l Bs B0:Nat)(v:Value)(S:List (List Nat))(node least:Nat)(J Jx:List (OfT S node least)→World→Prop)(W0:World)(hnode:node<S.length)(hS63:S.length≤1000000000)(hl63:(S.getD node []).length≤1000000000)
  (hJ:AbidesFrom W0.heap.size J)
  (hY:∀ pre x W,J pre W→pre.length<(ofL S node least).length→YieldAt Fence.wide (n - 1) prog l (encOf x) W fun e W' =>
   (e=.returned (.bool true)∧J (pre++[x]) W'∧KpB (Bs+1+1) B0 W W')∨(e=.returned (.bool false)∧Jx (pre++[x]) W'))
  (h0b:Boxed W0 Bs 111 v) (h1b:Boxed W0 (Bs+1) 3 (natC node)) (h2b:Boxed W0 (Bs+1+1) 3 (natC least)) (hR:RowsOf B0 v S W0) (h0:J [] W0) :
  CallsIn Fence.wide n prog 126 #[.func (.yield l) #[] #[],.pointer (some ⟨Bs,0,none⟩),.pointer (some ⟨Bs+1,0,none⟩),.pointer (some ⟨Bs+1+1,0,none⟩)] W0 fun e W'=>(∃ v,e=.returned v) ∧
   ((∃ ys:List (OfT S node least),valsOf ys=ofL S node least∧J ys W')∨(∃ pre:List (OfT S node least),valsOf pre <+: ofL S node least∧Jx pre W')):=by
 rcases hR with ⟨rfl,_⟩ | ⟨b,off,cap,rfl,hbB,hR⟩
 ·simp at hnode
 obtain⟨r,hr,hrow⟩:=hR node (S[node]) (by simp [hnode])
 have hg:S.getD node []=S[node]:=by simp [hnode]
 generalize S[node]=L at *
 have hc0:=h0b.cell
 have hc1:=h1b.cell
 have hc2:=h2b.cell
 have hlt2:=h2b.lt
 have hx0:(0:Int)≤(node:Int):=Int.natCast_nonneg _
 have hx1:(node:Int)<(S.length:Int):=by omega
 have HB2:=zh h2b
 have HY:=zh hY
 have HJ:=zh hJ
 have HO:Hid (ofL S node least=L.filter (fun k=>decide (least≤k))):=zh (by unfold ofL;rw [hg])
 have HG:=zh hg
 clear hY hJ h2b hR hg
 refine callsIn_of_wp func126 rfl trivial ?_ rfl
 simp only [ntmps126,List.size_toArray,List.length_cons,List.length_nil,Nat.reduceAdd,Nat.reduceSub,Array.replicate_succ,Array.replicate_zero,List.push_toArray,List.append_toArray,List.nil_append,List.cons_append]
 rcases hrow with ⟨rfl,a',c',rfl⟩ | ⟨b',off',cap',rfl,hbB',hrow⟩
 ·gi_wp2
  gi_loopw [12] (fun p wr=>p=.int .i64 0∧Hid (J [] wr)) (fun _ _=>0)
  case atStart=>exact⟨rfl,zh h0⟩
  case round =>
   clear h0
   obtain⟨rfl,HJ0⟩:=hrel
   gi_wp2
   go_end0
   exact⟨⟨_,rfl⟩,.inl ⟨[],Eq.trans rfl HO.out.symm,HJ0.out⟩⟩
 ·rw [HG.out]at hl63
  have HROW:=zh hrow
  clear hrow
  gi_wp2
  gi_loopw [12] (fun p wr=>∃ (k:Nat) (ys:List (OfT S node least)),k≤L.length∧p=.int .i64 k∧Hid (valsOf ys=(L.take k).filter (fun k=>decide (least≤k)))∧Hid (J ys wr)∧Hid (Boxed wr (Bs+1+1) 3 (natC least))∧Hid (Below B0 W0 wr)) (fun p _=>L.length - (intOf p).toNat)
  case atStart=>exact⟨0,[],by omega,rfl,zh rfl,zh h0,HB2,zh (Below.refl _ _)⟩
  case round =>
   clear h0 HB2 hc0 hc1 hc2
   obtain⟨k,ys,hk,rfl,HYS,HJy,HB2,HBW⟩:=hrel
   by_cases hlt:k<L.length
   ·have hcl:=(HBW.out.cell (p:=⟨b',off'+k,none⟩) (by simp;omega)).trans (HROW.out k L[k] (by simp [hlt]))
    have hc2:=HB2.out.cell
    have HFT:=zh (zd3 (fun k=>decide (least≤k)) L k hlt)
    have HMEM:Hid (L[k]∈L):=zh (List.getElem_mem hlt)
    generalize L[k]=x at *
    by_cases hge:least≤x
    ·have hge2:(least:Int)≤(x:Int):=by omega
     have HX:Hid (x∈ofL S node least):=zh (zki (List.mem_filter.2 ⟨HMEM.out,by simpa using hge⟩) HO.out.symm)
     have HL:Hid (ys.length<(ofL S node least).length):=zh (zkd (by
      have e:=congrArg List.length HYS.out
      rw [z52]at e
      have e2:=(z6w (fun k=>decide (least≤k)) L (k+1)).length_le
      rw [HFT.out,if_pos (by simpa using hge),List.length_append]at e2
      simp at e e2 ⊢
      omega) HO.out.symm)
     obtain⟨fn,tmps,assign,body,hy,hR⟩:=HY.out ys ⟨x,HX.out⟩ wr HJy.out HL.out
     unfold encOf at hy
     dsimp only at hy
     gi_wp2_with fail
     refine hR.mono ?_
     rintro e W' (⟨rfl,hJ',hk'⟩ | ⟨rfl,hJx'⟩)
     ·have HB3:Hid (Boxed W' (Bs+1+1) 3 (natC least)):=zh (hk'.1.trans HB2.out)
      have HBW3:Hid (Below B0 W0 W'):=zh (HBW.out.trans hk'.2)
      have HJ3:=zh hJ'
      clear hJ' hk' hR hy
      gi_wp2_with fail
      go_roundw
      case rel=>exact⟨k+1,ys++[⟨x,HX.out⟩],by omega,by go_num,zh (by rw [HFT.out,if_pos (by simpa using hge),z37,HYS.out]),HJ3,HB3,HBW3⟩
      case measure=>simp [intOf];omega
     ·have HJ3:=zh hJx'
      clear hJx' hR hy
      gi_wp2_with fail
      refine bodyPost_ret (results_none rfl _ _ _) rfl ?_
      refine⟨⟨_,rfl⟩,.inr ⟨ys++[⟨x,HX.out⟩],?_,HJ3.out⟩⟩
      have e2:=z6w (fun k=>decide (least≤k)) L (k+1)
      rw [HFT.out,if_pos (by simpa using hge),← HYS.out]at e2
      exact zij e2 (z37 ys ⟨x,HX.out⟩).symm HO.out.symm
    ·have hge2:¬ (least:Int)≤(x:Int):=by omega
     gi_wp2_with fail
     refine⟨fun _ h=>(by cases h),?_⟩
     gi_wp2_with fail
     go_roundw
     case rel=>exact⟨k+1,ys,by omega,by go_num,zh (by rw [HFT.out,if_neg (by simpa using hge)];exact HYS.out),HJy,HB2,HBW⟩
     case measure=>simp [intOf];omega
   ·have hkk:k=L.length:=by omega
    subst hkk
    gi_wp2
    go_end0
    refine⟨⟨_,rfl⟩,.inl ⟨ys,?_,HJy.out⟩⟩
    have:=HYS.out
    rw [List.take_length]at this
    exact this.trans HO.out.symm
theorem zf2 (n:Nat)(hn:1≤n)(Bs B0:Nat)(v:Value)(S:List (List Nat))(node least:Nat)(hnode:node<S.length)(hS63:S.length≤1000000000)(hl63:(S.getD node []).length≤1000000000)(w:World)
  (h0:Boxed w Bs 111 v) (h1:Boxed w (Bs+1) 3 (natC node)) (h2:Boxed w (Bs+1+1) 3 (natC least)) (hR:RowsOf B0 v S w) (hB0:B0≤w.heap.size) :
  SeqStopsK Fence.wide n prog 126 #[.pointer (some ⟨Bs,0,none⟩),.pointer (some ⟨Bs+1,0,none⟩),.pointer (some ⟨Bs+1+1,0,none⟩)] (encOf (S:=S) (node:=node) (least:=least)) (KpB (Bs+1+1) B0)
   (fun ys=>valsOf ys=ofL S node least) (fun pre=>valsOf pre <+: ofL S node least) (ofL S node least).length w:=fun l J Jx W hW hJ _ hY hj =>
 of1_in n hn l Bs B0 v S node least J Jx W hnode hS63 hl63 hJ hY ((hW.block _ h0.lt).trans h0) ((hW.block _ h1.lt).trans h1) ((hW.block _ h2.lt).trans h2) (hR.below hW hB0) hj
end
section
open Go.Proofs.Tryz Go Go.RowKit
def Flags (W:World)(g:Nat)(l:List Bool):Prop:=W.heap[g]? = some (.cells (l.map Value.bool).toArray 4 (0,0))
theorem Flags.cell {W:World}{g:Nat}{l:List Bool}(h:Flags W g l)(i:Nat)(b:Bool)(hb:l[i]? = some b):W.cell? ⟨g,i,none⟩=some (.bool b):=by
 rw [zw _ _ _ _ _ _ h]
 simp [hb]
theorem Flags.set {W:World}{g:Nat}{l:List Bool}(h:Flags W g l)(i:Nat)(b:Bool):Flags (W.setCell ⟨g,i,none⟩ (.bool b)) g (l.set i b):=by
 have:=heap_setCell_same W g i _ _ (.bool b) h
 unfold Flags
 rw [this]
 simp [List.map_set]
end
section
open Go.Proofs.Tryz Go Go.RowKit
def marked (l:List Bool):List Nat:=(List.range l.length).filter fun i=>l.getD i false
def ReachS (N:Nat)(es:List (Int×Int))(from_:List Int)(l:List Nat):Prop:=l.Pairwise (· < ·)∧∀ k,k∈l ↔ k<N∧∃ a:Nat,(a:Int)∈from_∧Rch (sucs N es) a k
end
section
open Go.Proofs.Tryz Go Go.RowKit
def Seg (W:World)(B:Nat)(e:TypeId)(v:Value)(xs:List Value):Prop :=
 (v=.slice none 0 0∧xs=[])∨∃ g off cap cur,v=.slice (some ⟨g,off,none⟩) xs.length cap∧B≤g∧W.heap[g]? = some (.cells cur e (0,0))∧xs.length≤cap∧off+cap≤cur.size∧∀ j x,xs[j]? = some x→cur[off+j]? = some x
end
section
open Go.Proofs.Tryz Go Go.RowKit
theorem z3a {F:Fence}{n:Nat}{P:Program}{Q:Exit→Act→World→Prop}{a:Act}{w:World}{c:Code}(I:Nat→Act→World→Prop)(m:Nat)(h0:I m a w)
  (round:∀ j a w,I j a w→c.wpIn F n P (Exit.then (fun a' w'=>∃ j',j'<j∧I j' a' w') Q) a w):(Code.loop c).wpIn F n P Q a w:=by
 have key:∀ k j a w,j<k→I j a w→Code.roundsIn F n P c Q k a w:=by
  intro k
  induction k with
  | zero=>intro j a w h;omega
  | succ k ih =>
   intro j a w hj hI
   rw [roundsIn_succ]
   refine Code.wpIn_mono (fun e a' w' q=>?_) (round j a w hI)
   cases e<;>first | exact q | (obtain⟨j',h1,h2⟩:=q;exact ih j' a' w' (by omega) h2)
 exact wpIn_loop_rounds (m+1) (key _ _ _ _ (Nat.lt_succ_self m) h0)
def Marks (B:Nat):List Deferred→World→Prop
 | [],_=>True
 | d::ds,W=>(∃ D,d={ target:=.collected D,args:=#[] }∧B≤D∧W.heap[D]? = some (.deferred (some []))∧∀ d'∈ds,∀ D',d'={ target:=.collected D',args:=#[] }→D'<D)∧Marks B ds W
def NoCells (B:Nat)(W W':World):Prop:=∀ k,B≤k→(∃ o:Obj,W.heap[k]? = some o∧o.isCells=false)→W'.heap[k]? = W.heap[k]?
theorem NoCells.of_keeps {B:Nat}{W W':World}(h:KeepsFrom B W W'):NoCells B W W':=fun k hk ⟨o,ho,hc⟩=>(h.same k o hk ho hc).trans ho.symm
theorem Marks.keep {B:Nat}:∀ {ds:List Deferred}{W W':World},Marks B ds W→NoCells B W W'→Marks B ds W'
 | [],_,_,_,_=>trivial
 | _::_,_,_,⟨⟨D,h1,h2,h3,h4⟩,hr⟩,hk=>⟨⟨D,h1,h2,(hk D h2 ⟨_,h3,rfl⟩).trans h3,h4⟩,hr.keep hk⟩
theorem Marks.grown {B:Nat}{ds:List Deferred}{W W':World}{row:Option Nat}(h:Marks B ds W)(hg:W.grownBy W' row)(hr:∀ r,row=some r→∃ o:Obj,W.heap[r]? = some o∧o.isCells=true):Marks B ds W' :=
 h.keep (fun k _ ⟨o,ho,hc⟩=>hg.block k (zb ho) (fun e=>by
  obtain⟨o',ho',hc'⟩:=hr k e.symm
  rw [ho]at ho'
  cases ho'
  rw [hc]at hc'
  cases hc'))
theorem Marks.lt {B:Nat}:∀ {ds:List Deferred}{W:World},Marks B ds W→∀ d∈ds,∀ D,d={ target:=.collected D,args:=#[] }→D<W.heap.size
 | [],_,_,d,hd,_,_=>by cases hd
 | _::_,W,⟨⟨D0,h1,_,h3,_⟩,hr⟩,d,hd,D,e=>by
  rcases List.mem_cons.1 hd with rfl | hd
  ·have e2:=h1.symm.trans e
   simp at e2
   subst e2
   exact(zb h3)
  ·exact hr.lt d hd D e
theorem Marks.push {B B2 D:Nat}{ds:List Deferred}{W W0:World}(h:Marks B ds W)(h0:Marks B ds W0)(hB:B≤B2)(hB2:W0.heap.size≤B2)(hD:B2≤D)(hK:W.heap[D]? = some (.deferred (some []))):Marks B ({ target:=.collected D,args:=#[] }::ds) W :=
 ⟨⟨D,rfl,by omega,hK,fun d hd D' e=>by have:=h0.lt d hd D' e;omega⟩,h⟩
theorem Marks.turn {B:Nat}:∀ {ds:List Deferred}{Wl X Y:World}{row:Option Nat},Marks B ds Wl→Marks B ds X→X.grownBy Y row→(∀ r,row=some r→Wl.heap.size≤r)→Marks B ds Y
 | [],_,_,_,_,_,_,_,_=>trivial
 | _::_,_,_,_,_,⟨⟨D0,e0,_,h0,_⟩,hl⟩,⟨⟨D,h1,h2,h3,h4⟩,hr⟩,hg,hrow=>by
  refine⟨⟨D,h1,h2,(hg.block D (zb h3) (fun e=>?_)).trans h3,h4⟩,Marks.turn hl hr hg hrow⟩
  have:=hrow D e.symm
  have e2:=e0.symm.trans h1
  simp at e2
  subst e2
  have:=(zb h0)
  omega
structure Shut (B:Nat)(W W':World):Prop where
 os:W'.os=W.os
 tape:W'.tape=W.tape
 output:W'.output=W.output
 size:W'.heap.size=W.heap.size
 low:∀ k,k<B→W'.heap[k]? = W.heap[k]?
 cells:∀ (k:Nat) (o:Obj),W.heap[k]? = some o→o.isCells=true→W'.heap[k]? = some o
theorem Shut.refl (B:Nat)(W:World):Shut B W W:=⟨rfl,rfl,rfl,rfl,fun _ _=>rfl,fun _ _ h _=>h⟩
theorem Shut.below {B B':Nat}{W W':World}(h:Shut B W W')(hB:B'≤B):Below B' W W':=⟨h.os,h.tape,h.output,by rw [h.size];exact zq _,fun k hk=>h.low k (by omega)⟩
theorem z30 {F:Fence}{n:Nat}{P:Program}{fn:Func}{tmps:Array Value}{R:Ending→World→Prop}{B:Nat}:∀ {ds:List Deferred}{W W0:World},Marks B ds W→Shut B W0 W→(∀ W',Shut B W0 W'→∃ v,(results fn tmps).run P W'=.ok v W'∧R (.returned v) W')→LeavesInM F n P fn tmps R ds .returning W
 | [],W,W0,_,hs,h=>h W hs
 | d::ds,W,W0,⟨⟨D,hd,hB,hK,hu⟩,hr⟩,hs,h=>by
  refine⟨by simp,.inl ⟨D,_,by rw [hd],run_takeDeferred hK,?_⟩⟩
  have hr2:Marks B ds (W.putObj D (.deferred none)):=by
   have:∀ (l:List Deferred),(∀ d'∈l,∀ D',d'={ target:=.collected D',args:=#[] }→D'<D)→Marks B l W→Marks B l (W.putObj D (.deferred none)):=by
    intro l
    induction l with
    | nil=>intro _ _;trivial
    | cons x l ih =>
     rintro hl ⟨⟨D1,h1,h2,h3,h4⟩,hm⟩
     have:=hl x (by simp) D1 h1
     exact⟨⟨D1,h1,h2,(World.putObj_heap_other (by omega)).trans h3,h4⟩,ih (fun d' hd'=>hl d' (by simp [hd'])) hm⟩
   exact this ds hu hr
  refine z30 hr2 ⟨hs.os,hs.tape,hs.output,?_,fun k hk=>?_,fun k o ho hc=>?_⟩ h
  ·rw [← hs.size];simp [World.putObj]
  ·rw [World.putObj_heap_other (by omega)];exact hs.low k hk
  ·have h1:=hs.cells k o ho hc
   rw [World.putObj_heap_other (fun e=>by subst e;rw [hK]at h1;cases h1;cases hc)]
   exact h1
end
section
open Go.Proofs.Tryz Go Go.RowKit
theorem z92 (c N m:Nat)(x z:Value)(h:c+m≤N):splice (List.replicate c x++List.replicate (N - c) z) c (List.replicate m x)=List.replicate (c+m) x++List.replicate (N - (c+m)) z:=by
 unfold splice
 rw [List.take_append_of_le_length (by simp),List.take_of_length_le (by simp),List.length_replicate,List.drop_append,List.drop_eq_nil_of_le (by simp),List.nil_append,List.drop_replicate,List.length_replicate,← List.append_assoc,List.replicate_append_replicate]
 congr 2
 omega
theorem z84 (b c N:Nat)(x:Int)(w:World)(hN:N≤1000000)(hx:w.cell? ⟨b,0,none⟩=some (intC x))(hb:b<w.heap.size) :
  Calls prog 93 #[.slice (some ⟨b,0,none⟩) 1 c,.int .i64 (N:Int)] w fun e w'=>∃ g,e=.returned (.slice (some ⟨g,0,none⟩) N N)∧w.heap.size≤g∧w'.heap[g]? = some (.cells (List.replicate N (intC x)).toArray 3 (0,0))∧Below w.heap.size w w':=by
 have hmk:=z78 N (by omega)
 have hmul:=Tryz.bits_Mul 1 N (by omega) (by omega) w
 have e1:1*N / 18446744073709551616=0:=by omega
 have e2:1*N % 18446744073709551616=N:=by omega
 rw [e1,e2]at hmul
 have HM:=zh hmul
 clear hmul e1 e2
 have h0:(0:Int)≤(N:Int):=by omega
 have h1:(N:Int)≤1000000:=by omega
 go_enter func93,ntmps93
 go_wp2_with fail
 refine HM.out.mono ?_
 rintro e w' ⟨rfl,rfl⟩
 have hcells:∀ j v,(List.replicate (Nat.min 1 N) (intC x))[j]? = some v→(w'.alloc (.cells (Array.replicate N (.int .i64 0)) 3)).cell? ((⟨b,0,none⟩:Addr).add j)=some v:=fun j v hv=>by
  have hj:j<Nat.min 1 N:=by have:=(zc hv);simpa using this
  have hv2:intC x=v:=by have:=List.getElem?_eq_some_iff.1 hv;obtain⟨_,h⟩:=this;simpa using h
  have hj0:j=0:=by have:Nat.min 1 N≤1:=Nat.min_le_left 1 N;omega
  subst hj0
  rw [← hv2]
  exact cellA _ hx
 have HC:=zh hcells
 clear hcells
 have hbw:Below w'.heap.size w' (w'.alloc (.cells (Array.replicate N (.int .i64 0)) 3)):=(Below.refl _ _).alloc (zq _) _
 have HBW:=zh hbw
 clear hbw
 go_wp2_with (with_reducible refine wpList_copy_splice rfl (.tmp 31) (.tmp 32) 109 109 rfl 3 underlying109 (by kernel_rfl) (some ⟨w'.heap.size,0,none⟩) (some ⟨b,0,none⟩) N N 1 c rfl rfl w'.heap.size 0 (List.replicate N (.int .i64 0)) 3 (by have:=zn w' (.cells (Array.replicate N (.int .i64 0)) 3);simpa using this) (List.replicate (Nat.min 1 N) (intC x)) (by simp) (fun _=>⟨rfl,_,rfl,HC.out⟩) (by simp;exact Nat.min_le_right 1 N) (by simp [Value.oneCell']) w'.heap.size w' HBW.out (zq _) ?_;intro w2 HG2 hb2)
 have HG3:Hid (w2.heap[w'.heap.size]? = some (.cells (List.replicate (Nat.min 1 N) (intC x)++List.replicate (N - Nat.min 1 N) (intC 0)).toArray 3 (0,0))):=zh (by
  have:=HG2.out
  have e:=z92 0 N (Nat.min 1 N) (intC x) (intC 0) (by have:Nat.min 1 N≤N:=Nat.min_le_right 1 N;omega)
  simp only [List.replicate_zero,List.nil_append,Nat.zero_add,Nat.sub_zero]at e
  rw [e]at this
  exact this)
 have HB2:=zh hb2
 clear HG2 hb2 hmk HM HC HBW
 have hm1:Nat.min 1 N≤N:=Nat.min_le_right 1 N
 have hm2:0<N→0<Nat.min 1 N:=fun h=>by rw [show Nat.min 1 N=1 from Nat.min_eq_left h];omega
 generalize Nat.min 1 N=c1 at *
 have HM2:=zh hm2
 clear hm2
 go_loopw [8] (fun s wr=>∃ k:Nat,k≤N∧s=.int .i64 k∧Hid (0<N→0<k)∧Hid (wr.heap[w'.heap.size]? = some (.cells (List.replicate k (intC x)++List.replicate (N - k) (intC 0)).toArray 3 (0,0)))∧Hid (Below w'.heap.size w' wr)) (fun s _=>N - (intOf s).toNat)
 case atStart=>exact⟨c1,hm1,rfl,HM2,HG3,HB2⟩
 case round =>
  clear HM2 HG3 HB2 hm1
  obtain⟨k,hk,rfl,HP,HG,HB⟩:=hrel
  by_cases hlt:k<N
  ·have hlt2:(k:Int)<(N:Int):=by omega
   have hle2:(k:Int)≤(N:Int):=by omega
   have hk0:(0:Int)≤(k:Int):=by omega
   have hkne:¬ N=k:=by omega
   have hpos:0<k:=HP.out (by omega)
   have HC:Hid (∀ j v,(List.replicate (Nat.min k (N - k)) (intC x))[j]? = some v→wr.drew.cell? ((⟨w'.heap.size,0,none⟩:Addr).add j)=some v):=zh (fun j v hv=>by
    have hj:j<Nat.min k (N - k):=by have:=(zc hv);simpa using this
    have hj2:j<k:=by have:Nat.min k (N - k)≤k:=Nat.min_le_left _ _;omega
    have hv2:intC x=v:=by have:=List.getElem?_eq_some_iff.1 hv;obtain⟨_,h⟩:=this;simpa using h
    rw [← hv2]
    have e:((⟨w'.heap.size,0,none⟩:Addr).add j)=⟨w'.heap.size,j,none⟩:=by unfold Addr.add;split<;>simp_all
    rw [e]
    refine(zw wr _ j _ _ _ HG.out).trans ?_
    rw [List.getElem?_toArray,List.getElem?_append_left (by simpa using hj2),List.getElem?_replicate,if_pos hj2])
   have hmn:Nat.min k (N - k)≤N - k:=Nat.min_le_right _ _
   have hmp:0<Nat.min k (N - k):=by
    rcases Nat.le_total k (N - k)with h | h
    ·rw [show Nat.min k (N - k)=k from Nat.min_eq_left h];omega
    ·rw [show Nat.min k (N - k)=N - k from Nat.min_eq_right h];omega
   have HMN:Hid (Nat.min k (N - k)=Nat.min k (N - k)):=zh rfl
   go_wp2_with fail
   go_region_held3 (fun _=>True) (trivial) ((refine step_copy_splice rfl (.tmp 41) (.tmp 44) 109 109 rfl 3 underlying109 (by kernel_rfl) (some ⟨w'.heap.size,k,none⟩) (some ⟨w'.heap.size,0,none⟩) (N - k) (N - k) k N (by rfl) (by rfl) w'.heap.size k (List.replicate k (intC x)++List.replicate (N - k) (intC 0)) 3 HG.out (List.replicate (Nat.min k (N - k)) (intC x)) (by simp) (fun _=>⟨rfl,_,rfl,HC.out⟩) (by simp;omega) (fun v hv=>by rw [List.eq_of_mem_replicate hv];rfl) w'.heap.size w' HB.out.drew (zq _) ?_;intro w2 HG2 hb2))
   all_goals
    have hl2:(List.replicate (Nat.min k (N - k)) (intC x)).length=Nat.min k (N - k):=by simp
    have HGN:Hid (w2.heap[w'.heap.size]? = some (.cells (List.replicate (k+Nat.min k (N - k)) (intC x)++List.replicate (N - (k+Nat.min k (N - k))) (intC 0)).toArray 3 (0,0))):=zh (by
     have:=HG2.out
     rw [z92 k N (Nat.min k (N - k)) (intC x) (intC 0) (by omega)]at this
     exact this)
    have HB2:=zh hb2
    clear HG2 hb2
    generalize Nat.min k (N - k)=m at *
    clear hl2
    have hw:IntKind.i64.wrap ((k:Int)+(m:Int))=((k+m:Nat):Int):=by rw [Int.natCast_add];exact IntWalk.i64_in _ (by omega)
    go_wp2_with fail
    go_roundw
    case rel=>exact⟨k+m,by omega,by go_num,zh (fun h=>by omega),HGN,HB2⟩
    case measure=>simp [intOf];omega
  ·have hkk:k=N:=by omega
   subst hkk
   go_wp2_with fail
   go_ret
   refine⟨_,rfl,zq _,?_,HB.out⟩
   have:=HG.out
   simpa using this
end
section
open Go.Proofs.Tryz Go Go.RowKit
def Ints (W:World)(g:Nat)(l:List Int):Prop:=W.heap[g]? = some (.cells (l.map intC).toArray 3 (0,0))
theorem Ints.cell {W:World}{g:Nat}{l:List Int}(h:Ints W g l)(i:Nat)(x:Int)(hb:l[i]? = some x):W.cell? ⟨g,i,none⟩=some (intC x):=by
 rw [zw _ _ _ _ _ _ h]
 simp [hb]
theorem Ints.set {W:World}{g:Nat}{l:List Int}(h:Ints W g l)(i:Nat)(x:Int):Ints (W.setCell ⟨g,i,none⟩ (intC x)) g (l.set i x):=by
 have:=heap_setCell_same W g i _ _ (intC x) h
 unfold Ints
 rw [this]
 simp [List.map_set]
theorem z0z {d:List Int}{a:Nat}(h:a<d.length):d[a]? = some (gD d a):=by
 unfold gD
 rw [zg,ze h]
 rfl
structure BfsW (B:Nat)(w W:World)(N go bo bq:Nat)(d:List Int)(q:List Nat)(qv:Value):Prop where
 o:Boxed W bo 109 (.slice (some ⟨go,0,none⟩) N N)
 qb:Boxed W bq 109 qv
 qs:Seg W B 3 qv (q.map natC)
 i:Ints W go d
 ne:qv.ownBlock≠some go
 b:Below B w W
 go:B≤go∧B≤bo∧B≤bq∧bo≠bq
def DistI (B:Nat)(S:List (List Nat))(least tgt n:Nat)(w:World)(go bo bq bn u0 hs:Nat)(ds:List Deferred)(pre:List Nat)(W':World):Prop :=
 ∃ (d':List Int) (q':List Nat) (qv':Value),BfsJ S least tgt n pre d' q'∧unass d'+q'.length=u0∧BfsW B w W' S.length go bo bq d' q' qv'∧Boxed W' bn 3 (natC n)∧Marks B ds W'∧hs≤W'.heap.size∧∀ k,qv'.ownBlock=some k→k<bn∨hs≤k
end
section
open Go.Proofs.Tryz
def cstep (far:List Int)(st:Int×Int)(k:Nat):Int×Int:=if 0≤gD far k∧(st.1<0∨gD far k<st.2) then((k:Int),gD far k) else st
def cfar (N:Nat)(es:List (Int×Int))(first:Nat):List Int:=bfsD (sucs N (es.map swapE)) first first
def cycStep (N:Nat)(es:List (Int×Int))(best:List Nat)(first:Nat):List Nat :=
 let st:=(ofP (sucs N es) first first).foldl (cstep (cfar N es first)) (-1,0)
 if st.1<0∨(best≠[]∧(best.length:Int)≤st.2+1) then best
 else if st.1=(first:Int) then [first] else first::(descP (sucs N es) (cfar N es first) (gD (cfar N es first) st.1.toNat).toNat st.1.toNat).dropLast
def cycF (N:Nat)(es:List (Int×Int))(k:Nat):List Nat:=(List.range k).foldl (cycStep N es) []
end
end Go.Proofs.YtapbhoodgnmnkaaGreatDoor
