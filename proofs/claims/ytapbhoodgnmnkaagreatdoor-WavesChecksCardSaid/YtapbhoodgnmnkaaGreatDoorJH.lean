/- Laws and contracts. -/
import Derived.Test.YtapbhoodgnmnkaaGreatDoorJG
set_option linter.unusedVariables false
set_option linter.unusedSimpArgs false
set_option maxRecDepth 100000
set_option maxHeartbeats 32000000
namespace Go.Proofs.YtapbhoodgnmnkaaGreatDoor
open Go.Proofs.Tryz Go Go.RowKit
def incrK (s:List SelL)(k:Nat):Prop:=∀ j,j+1<k→ltB (s.getD j default).1 (s.getD (j+1) default).1=true
theorem z71 {s:List SelL}:incrK s s.length ↔ incrS s:=by
 have hg:∀ i (hi:i<s.length),s.getD i default=s[i]:=fun i hi=>by rw [zg,ze hi];rfl
 constructor
 ·intro h
  unfold incrS
  rw [List.pairwise_iff_getElem]
  intro i j hi hj hij
  obtain⟨d,rfl⟩:∃ d,j=i+d+1:=⟨j - i - 1,by omega⟩
  clear hij
  induction d with
  | zero=>have:=h i (by omega);rwa [hg i hi,hg (i+1) (by omega)]at this
  | succ d ih =>
   have:=h (i+d+1) (by omega)
   rw [hg (i+d+1) (by omega),hg (i+d+1+1) (by omega)]at this
   exact z1o (ih (by omega)) this
 ·intro h j hj
  rw [hg j (by omega),hg (j+1) hj]
  exact List.pairwise_iff_getElem.1 h j (j+1) (by omega) hj (by omega)
theorem z8g {s:List SelL}{k:Nat}(h:incrK s k)(h2:0<k→ltB (s.getD (k - 1) default).1 (s.getD k default).1=true):incrK s (k+1):=fun j hj=>by
 by_cases e:j+1=k
 ·subst e
  exact h2 (by omega)
 ·exact h j (by omega)
theorem SelsOf.at {B:Nat}{ao:Option Addr}{n cap:Nat}{s:List SelL}{W:World}(h:SelsOf B (.slice ao n cap) s W){i:Nat}(hi:i<s.length) :
  ∃ b off,ao=some ⟨b,off,none⟩∧b<B∧W.cell? ⟨b,off+i*4,none⟩=some (.string (s.getD i default).1)∧W.cell? ⟨b,off+i*4+1,none⟩=some (intC (s.getD i default).2.1)∧W.cell? ⟨b,off+i*4+2,none⟩=some (intC (s.getD i default).2.2.1)∧W.cell? ⟨b,off+i*4+3,none⟩=some (intC (s.getD i default).2.2.2):=by
 obtain⟨ao',cap',e,h⟩:=h
 cases e
 obtain⟨b,off,e,h0,h1⟩:=h i s[i] (by simp [hi])
 have hg:s.getD i default=s[i]:=by rw [zg,ze hi];rfl
 rw [hg]
 exact⟨b,off,e,h0,h1⟩
def GraphR (w:World)(g:(List ByteArray×List (Int×Int))×Int)(e:Ending)(w':World):Prop :=
 ∃ nv ev,e=.returned (.tuple #[.agg #[nv,ev],.int .i64 g.2])∧RowOf Value.string w'.heap.size nv g.1.1 w'∧EdgesOf w'.heap.size ev g.1.2 w'∧Below w.heap.size w w'
theorem z0q (a b:ByteArray):(a.toList == b.toList)=decide (a=b):=by
 by_cases h:a=b
 ·subst h;simp
 ·have:¬ a.toList=b.toList:=fun e=>h (z3e e)
  simp [h,this]
structure OfJ (w1:World)(g:Nat)(s:List SelL)(k:Nat)(es:List (Int×Int))(nv ev:Value)(W:World):Prop where
 bel:Below w1.heap.size w1 W
 lo:w1.heap.size≤g
 out:W.heap[g]? = some (.cells #[nv,ev] 32 (0,0))
 nodes:W.ownsRow (g+1) 9 1 nv k ((s.take k).map (fun y=>.string y.1))
 edges:W.ownsRow (g+1) 43 2 ev es.length (edgeCells es)
variable {w1:World} {g:Nat} {s:List SelL} {k:Nat} {es:List (Int×Int)} {nv ev:Value} {W:World}
section
open Go.Proofs.Tryz Go Go.RowKit Go.Maps
def selCells (l:List SelL):List Value:=l.flatMap selC
theorem z0p:∀ l:List SelL,(selCells l).length=l.length*4
 | []=>rfl
 | y::l=>by
  have ih:=z0p l
  unfold selCells at ih ⊢
  rw [List.flatMap_cons,List.length_append,ih,List.length_cons]
  simp [selC]
  omega
theorem z33:∀ {l:List SelL}{i j:Nat},i<l.length→j<4→(selCells l)[i*4+j]? = (selC (l.getD i default))[j]?
 | y::l,0,j,hi,hj=>by
  unfold selCells
  rw [List.flatMap_cons,Nat.zero_mul,Nat.zero_add,List.getElem?_append_left (by simp [selC];omega)]
  rfl
 | y::l,i+1,j,hi,hj=>by
  have ih:=z33 (l:=l) (i:=i) (j:=j) (by simpa using hi) hj
  unfold selCells at ih ⊢
  rw [List.flatMap_cons,List.getElem?_append_right (by simp [selC];omega),show(i+1)*4+j - (selC y).length=i*4+j by simp [selC];omega,ih]
  rfl
theorem za4 {W:World}{B:Nat}{v:Value}{l:List SelL}(h:W.ownsRow B 53 4 v l.length (selCells l)):SelsOf W.heap.size v l W:=by
 have hxl:=z0p l
 have hat:=@z33 l
 generalize selCells l=xs at *
 obtain⟨hl,⟨rfl,h0⟩ | ⟨g,cap,cur,rfl,h1,h2,h3,h4,h5,h6⟩⟩:=h
 ·obtain rfl:=List.length_eq_zero_iff.1 h0
  exact⟨none,0,rfl,fun i q hq=>by simp at hq⟩
 ·refine⟨_,cap,rfl,fun i q hq=>?_⟩
  have hi:=(zc hq)
  have hqd:l.getD i default=q:=by rw [zg,hq];rfl
  have key:∀ j u,j<4→(selC q)[j]? = some u→W.cell? ⟨g,0+i*4+j,none⟩=some u:=fun j u hj hu=>by
   have hu2:=hat hi hj
   rw [hqd,hu]at hu2
   have hj2:=(zc hu2)
   rw [zw _ _ _ _ _ _ h2,← hu2,← h6,List.getElem?_take,if_pos (by omega)]
   simp
  exact⟨g,0,rfl,(zb h2),key 0 _ (by omega) rfl,key 1 _ (by omega) rfl,key 2 _ (by omega) rfl,key 3 _ (by omega) rfl⟩
theorem z9u:(prog.info? 53).map (fun i=>(i.zero,i.size,i.bytes))=some (some (.agg #[.string ⟨#[]⟩,.int .i64 0,.int .i64 0,.int .i64 0]),4,40):=by kernel_rfl
def SelF (G:RelL→Value→Prop)(s:List SelL)(f:Lit→Option Value):Prop :=
 ∀ p:ByteArray,(∃ x r,keyL x∈s∧x.path=p∧G x r∧f (.string p.data.toList)=some (.agg (relC x r)))∨(f (.string p.data.toList)=none∧∀ y∈s,y.1≠p)
theorem zi7 {s:List SelL}{q:ReqL}(h:∀ y∈s,y.1≠q.1):metB s q=false:=by
 unfold metB
 rw [List.any_eq_false]
 intro y hy e
 rw [Bool.and_eq_true]at e
 exact h y hy (of_decide_eq_true e.1)
theorem zic {s:List SelL}(hn:(s.map (·.1)).Nodup){a b:SelL}(ha:a∈s)(hb:b∈s)(e:a.1=b.1):a=b:=by
 induction s with
 | nil=>cases ha
 | cons y s ih =>
  rw [List.map_cons,List.nodup_cons]at hn
  rcases List.mem_cons.1 ha with h1 | h1<;>rcases List.mem_cons.1 hb with h2 | h2
  ·rw [h1,h2]
  ·subst h1;exact absurd (List.mem_map.2 ⟨b,h2,e.symm⟩) hn.1
  ·subst h2;exact absurd (List.mem_map.2 ⟨a,h1,e⟩) hn.1
  ·exact ih hn.2 h1 h2
theorem zkk {s:List SelL}{q:ReqL}{y:SelL}(hn:(s.map (·.1)).Nodup)(hy:y∈s)(e:y.1=q.1):metB s q=hasB q.2 (1000*y.2.2.1+y.2.2.2):=by
 unfold metB
 cases hb:hasB q.2 (1000*y.2.2.1+y.2.2.2)with
 | true =>
  rw [List.any_eq_true]
  exact⟨y,hy,by rw [hb,Bool.and_true];exact decide_eq_true e⟩
 | false =>
  rw [List.any_eq_false]
  intro z hz h
  rw [Bool.and_eq_true]at h
  have hzy:z.1=y.1:=(of_decide_eq_true h.1).trans e.symm
  have:z=y:=zic hn hz hy hzy
  subst this
  rw [hb]at h
  cases h.2
theorem SelF.start (G:RelL→Value→Prop):SelF G [] (fun _=>none):=fun _=>.inr ⟨rfl,fun _ h=>by cases h⟩
theorem SelF.put {G:RelL→Value→Prop}{s:List SelL}{f:Lit→Option Value}{k:Nat}(h:SelF G (s.take k) f)(hk:k<s.length){x:RelL}{r:Value}(hx:keyL x=s.getD k default)(hg:G x r) :
  SelF G (s.take (k+1)) (putF f (.string x.path.data.toList) (.agg (relC x r))):=by
 have hs:s.take (k+1)=s.take k++[keyL x]:=by
  rw [hx,zs hk,zg,ze hk];rfl
 intro p
 rw [hs]
 by_cases e:x.path=p
 ·refine .inl ⟨x,r,by simp,e,hg,?_⟩
  subst e
  simp [putF]
 ·have hne:¬ (Lit.string p.data.toList=Lit.string x.path.data.toList):=fun h=>by
   injection h with h
   exact e (ByteArray.ext (Array.toList_inj.1 h.symm))
  rcases h p with ⟨x2,r2,h1,h2,h3,h4⟩ | ⟨h1,h2⟩
  ·refine .inl ⟨x2,r2,by simp [h1],h2,h3,?_⟩
   unfold putF
   rw [if_neg hne,h4]
  ·refine .inr ⟨?_,fun y hy=>?_⟩
   ·unfold putF
    rw [if_neg hne,h1]
   ·rcases List.mem_append.1 hy with hy | hy
    ·exact h2 y hy
    ·rw [List.mem_singleton.1 hy];exact e
theorem z80 {X:List RelL}(h:checkX X=0){x:RelL}(hx:x∈X):validB x.ver.1 x.ver.2.1 x.ver.2.2=true:=by
 obtain⟨k,hk,rfl⟩:=List.mem_iff_getElem.1 hx
 unfold checkX at h
 split at h
 ·exact absurd h (by decide)
 ·have h1:=z47 h k hk
  unfold idxErr at h1
  have h2:relE (X.getD k default)=0:=by
   by_cases e:relE (X.getD k default)=0
   ·exact e
   ·rw [if_pos e]at h1;exact absurd h1 e
  rw [zg,ze hk]at h2
  simp only [Option.getD_some]at h2
  unfold relE at h2
  split at h2
  ·exact absurd h2 (by decide)
  ·split at h2
   ·exact absurd h2 (by decide)
   ·rename_i h3
    have h3:¬ (validB X[k].ver.1 X[k].ver.2.1 X[k].ver.2.2&&_)=false:=h3
    rw [Bool.not_eq_false,Bool.and_eq_true]at h3
    exact h3.1
theorem zlp {s:List SelL}{es:List ReqL}(h:es.any (fun q=>!metB s q)=false):∀ q∈es,metB s q=true:=fun q hq=>by
 rw [List.any_eq_false]at h
 have:=h q hq
 simpa using this
end
section
open Go.Proofs.Tryz Go Go.RowKit Go.Maps
structure IdxBx (w:World)(v iv:Value)(W:World):Prop where
 bel:Below w.heap.size w W
 idx:W.heap[w.heap.size]? = some (.cells #[v,iv] 25 (0,0))
section
variable {w:World} {v iv:Value} {W W':World}
theorem IdxBx.lt (h:IdxBx w v iv W):w.heap.size<W.heap.size:=(zb h.idx)
theorem IdxBx.below (h:IdxBx w v iv W)(hb:Below W.heap.size W W'):IdxBx w v iv W':=⟨h.bel.trans (hb.mono h.bel.size),(hb.block _ h.lt).trans h.idx⟩
theorem IdxBx.c0 (h:IdxBx w v iv W):W.cell? ⟨w.heap.size,0,none⟩=some v:=zw _ _ 0 _ _ _ h.idx
theorem IdxBx.c1 (h:IdxBx w v iv W):W.cell? ⟨w.heap.size,1,none⟩=some iv:=zw _ _ 1 _ _ _ h.idx
theorem IdxBx.grown {row:Option Nat}(h:IdxBx w v iv W)(hg:W.grownBy W' row)(hr:∀ b,row=some b→w.heap.size<b):IdxBx w v iv W' :=
 ⟨h.bel.grown hg h.bel.size (fun b hb=>Nat.le_of_lt (hr b hb)),(hg.block _ h.lt (fun e=>by have:=hr _ e.symm;omega)).trans h.idx⟩
end
theorem IdxBx.start (w:World)(v iv:Value):IdxBx w v iv (w.alloc (.cells #[v,iv] 25)):=⟨belQ _ _,zn w _⟩
theorem zg1 {P:Program}{k:TypeId}{W:World}{b n:Nat}{f:Lit→Option Value}(h:MapF P k W b n f)(j:Nat)(v:Value):W.cell? ⟨b,j,none⟩≠some v:=fun e=>by
 obtain⟨D,⟨es,clock,h1,_⟩,_⟩:=h
 unfold World.cell? at e
 simp [h1]at e
theorem zgq {B mb:Nat}{r:Value}{s:List (Int×Int)}{W W':World}(h:SpansOf B r s W)(hB:B≤W.heap.size)(hg:W.grownBy W' (some mb))(hn:∀ o v,W.cell? ⟨mb,o,none⟩≠some v):SpansOf B r s W':=by
 obtain⟨ao,cap,rfl,h⟩:=h
 refine⟨ao,cap,rfl,fun i x hx=>?_⟩
 obtain⟨b,off,rfl,hlt,h1,h2⟩:=h i x hx
 have hne:some b≠some mb:=fun e=>by injection e with e;subst e;exact hn _ _ h1
 exact⟨b,off,rfl,hlt,(hg.cell_far ⟨b,off+i*2,none⟩ (Nat.lt_of_lt_of_le hlt hB) hne).trans h1,(hg.cell_far ⟨b,off+i*2+1,none⟩ (Nat.lt_of_lt_of_le hlt hB) hne).trans h2⟩
theorem zge {B mb:Nat}{r:Value}{l:List ReqL}{W W':World}(h:ReqsOf B r l W)(hB:B≤W.heap.size)(hg:W.grownBy W' (some mb))(hn:∀ o v,W.cell? ⟨mb,o,none⟩≠some v):ReqsOf B r l W':=by
 obtain⟨ao,cap,rfl,h⟩:=h
 refine⟨ao,cap,rfl,fun i q hq=>?_⟩
 obtain⟨b,off,rv,rfl,hlt,h1,h2,h3⟩:=h i q hq
 have hne:some b≠some mb:=fun e=>by injection e with e;subst e;exact hn _ _ h1
 exact⟨b,off,rv,rfl,hlt,(hg.cell_far ⟨b,off+i*2,none⟩ (Nat.lt_of_lt_of_le hlt hB) hne).trans h1,(hg.cell_far ⟨b,off+i*2+1,none⟩ (Nat.lt_of_lt_of_le hlt hB) hne).trans h2,zgq h3 hB hg hn⟩
def SideG (X:List RelL)(W:World):RelL→Value→Prop:=fun x r=>x∈X∧ReqsOf W.heap.size r x.reqs W
theorem SelF.imp {G G':RelL→Value→Prop}{s:List SelL}{f:Lit→Option Value}(h:SelF G s f)(hi:∀ x r,G x r→G' x r):SelF G' s f:=fun p=>by
 rcases h p with ⟨x,r,h1,h2,h3,h4⟩ | h
 ·exact .inl ⟨x,r,h1,h2,hi _ _ h3,h4⟩
 ·exact .inr h
theorem SideG.on {X:List RelL}{W W':World}(hb:Below W.heap.size W W'):∀ x r,SideG X W x r→SideG X W' x r:=fun _ _ h=>⟨h.1,h.2.on hb⟩
def SideAt (X:List RelL)(s:List SelL)(b:Nat)(W:World):Prop:=∃ f,MapF prog 9 W b s.length f∧SelF (SideG X W) s f
theorem SideAt.below {X:List RelL}{s:List SelL}{b:Nat}{W W':World}(h:SideAt X s b W)(hb:Below W.heap.size W W'):SideAt X s b W':=by
 obtain⟨f,h1,h2⟩:=h
 exact⟨f,h1.below hb,h2.imp (SideG.on hb)⟩
open Classical in
noncomputable def newV (X:List RelL)(s:List SelL):Int:=if checkX X≠0∨¬ incrS s then 1 else if ∃ y∈s,findR X y=none then 6 else 0
theorem zf0 {X:List RelL}{s:List SelL}(h:checkX X≠0∨¬ incrS s):newV X s=1:=by unfold newV;rw [if_pos h]
theorem zkq {X:List RelL}{s:List SelL}(h1:checkX X=0)(h2:incrS s)(h:∃ y∈s,findR X y=none):newV X s=6:=by unfold newV;rw [if_neg (fun g=>g.elim (fun a=>a h1) (fun a=>a h2)),if_pos h]
theorem zm7 {X:List RelL}{s:List SelL}(h1:checkX X=0)(h2:incrS s)(h:∀ y∈s,(findR X y).isSome=true):newV X s=0:=by
 unfold newV
 rw [if_neg (fun g=>g.elim (fun a=>a h1) (fun a=>a h2)),if_neg (fun⟨y,hy,e⟩=>by have:=h y hy;rw [e]at this;cases this)]
def NewR (X:List RelL)(s:List SelL)(w:World)(e:Ending)(w':World):Prop:=Below w.heap.size w w'∧∃ m:Option Nat,e=.returned (.tuple #[.map m,.int .i64 (newV X s)])∧(newV X s=0→∃ b,m=some b∧w.heap.size<b∧SideAt X s b w'∧checkX X=0∧incrS s∧∀ y∈s,(findR X y).isSome=true)
theorem NewR.no {X:List RelL}{s:List SelL}{w w':World}{E:Int}(hb:Below w.heap.size w w')(h:newV X s=E)(h0:E≠0):NewR X s w (.returned (.tuple #[.map none,.int .i64 E])) w':=⟨hb,none,by rw [h],fun e=>absurd (h.symm.trans e) h0⟩
theorem zho {X:List RelL}(hq:∀ x∈X,RelBd x){y:SelL}{x:RelL}(h:findR X y=some x):x.path.size≤maxLen∧keyL x=y∧x∈X:=by
 have hm:x∈X:=List.mem_of_find?_eq_some h
 have hk:keyL x=y:=by have:=List.find?_some h;simpa using this
 have:=(hq x hm).path
 exact⟨by unfold maxLen;omega,hk,hm⟩
theorem zcp {k n:Nat}(h1:1≤k)(h:k<n)(h2:n≤1000000):wrap64 ((k:Int) - 1)=((k - 1:Nat):Int):=by unfold wrap64;omega
theorem zdl (v iv sv:Value)(X:List RelL)(s:List SelL)(w:World)(hm:MaxOk w)(hX:X.length≤1000000)(hq:∀ x∈X,RelBd x)(hR:RelsOf w.heap.size v X w)
  (hs:s.length≤1000000) (hy:∀ y∈s,SelBd y) (hS:SelsOf w.heap.size sv s w) :
  Calls prog 67 #[.agg #[v,iv],sv] w (NewR X s w):=by
 have HCK:=zh (fun W (hb:RowKit.Below w.heap.size w W)=>z5n v iv X W (hm.below hb hm.pos) hX hq (hR.on hb))
 have HFI:=zh (fun W y (hy:SelBd y) (hb:RowKit.Below w.heap.size w W)=>zjj v iv X y W (hm.below hb hm.pos) hX hq (hR.on hb) hy)
 have HS:=zh hS
 have HQB:=zh hq
 have HYB:=zh hy
 obtain⟨va,vn,vc,rfl⟩:∃ a n c,v=.slice a n c:=by obtain⟨a,c,_,e,_⟩:=hR.rv;exact⟨_,_,_,e⟩
 obtain⟨sa,sc,rfl⟩:=zo hS
 clear hm hq hR hS hy
 have HB0:=zh (IdxBx.start w (.slice va vn vc) iv)
 have hmm:=@run_makeMap prog
 go_enter func67,ntmps67
 go_upto_region 1 with fail
 generalize w.alloc (.cells #[.slice va vn vc,iv] 25)=W at *
 have c0:=HB0.out.c0
 have c1:=HB0.out.c1
 go_wp2_with fail
 refine(HCK.out _ HB0.out.bel).mono ?_
 rintro e w1 ⟨rfl,hb1⟩
 have HB1:=zh (HB0.out.below hb1)
 obtain⟨E,hE⟩:∃ E,checkX X=E:=⟨_,rfl⟩
 rw [hE]
 have HEE:=zh hE
 clear hb1 c0 c1 HCK hE
 by_cases hE0:E=0
 case neg =>
  have hE1:(E != 0)=true:=by simpa using hE0
  have HV:=zh (zf0 (X:=X) (s:=s) (.inl (fun h=>hE0 (HEE.out.symm.trans h))))
  go_wp2_with fail
  go_ret2
  exact NewR.no HB1.out.bel HV.out (by decide)
 subst hE0
 go_wp2_with fail
 go_loopw [6] (fun p wr=>Hid (∃ k:Nat,1≤k∧(k≤s.length∨k=1)∧p=.int .i64 (k:Int)∧incrK s k∧IdxBx w (.slice va vn vc) iv wr)) (fun p _=>s.length+1 - (intOf p).toNat)
 case atStart=>exact zh ⟨1,zq _,.inr rfl,rfl,(fun j hj=>by omega),HB1.out⟩
 case round =>
  obtain⟨k,hk1,hkl,rfl,hik,hb⟩:=hrel.out
  have HIK:=zh hik
  have HB:=zh hb
  clear hrel hik hb HB1
  by_cases hlt:k<s.length
  case neg =>
   have HIN:Hid (incrS s):=zh (z71.1 (fun j hj=>HIK.out j (by omega)))
   have hd:¬ (k:Int)<(s.length:Int):=fun h=>hlt (Int.ofNat_lt.1 h)
   have hd2:decide ((k:Int)<(s.length:Int))=false:=decide_eq_false hd
   clear HIK hkl hlt
   have HMK:Hid (MapF prog 9 (wr.alloc (.map #[] 0)) wr.heap.size 0 (fun _=>none)):=zh (MapF.made prog 9 wr)
   have HB2:=zh (HB.out.below (belQ wr (.map #[] 0)))
   have HMW:Hid (w.heap.size<wr.heap.size):=zh HB.out.lt
   obtain⟨mb,hmb⟩:∃ mb,wr.heap.size=mb:=⟨_,rfl⟩
   rw [hmb]at HMK HMW
   go_wp2_with fail
   generalize wr.alloc (.map #[] 0)=W8 at *
   try simp only [hmb]
   clear hmb hmm HB
   go_loopw [36] (fun p wr=>Hid (∃ k:Nat,k≤s.length∧p=.int .i64 (k:Int)∧(∃ f,MapF prog 9 wr mb k f∧SelF (SideG X wr) (s.take k) f)∧IdxBx w (.slice va vn vc) iv wr∧∀ y∈s.take k,(findR X y).isSome=true)) (fun p _=>s.length - (intOf p).toNat)
   case atStart=>exact zh ⟨0,Nat.zero_le _,rfl,⟨_,HMK.out,SelF.start _⟩,HB2.out,fun y hy=>(by simp at hy)⟩
   case round =>
    obtain⟨k,hk,rfl,⟨f,hmf,hsf⟩,hb,hfd⟩:=hrel.out
    have HMF:=zh hmf
    have HSF:=zh hsf
    have HB:=zh hb
    have HFD:=zh hfd
    clear hrel hmf hsf hb hfd HMK HB2 hd hd2
    by_cases hlt:k<s.length
    case neg =>
     have hkk:k=s.length:=Nat.le_antisymm hk (Nat.le_of_not_lt hlt)
     clear hk
     subst hkk
     have HFD2:Hid (∀ y∈s,(findR X y).isSome=true):=zh (by have:=HFD.out;rwa [List.take_length]at this)
     have HV:=zh (zm7 HEE.out HIN.out HFD2.out)
     have HSD:Hid (SideAt X s mb wr):=zh ⟨f,HMF.out,by have:=HSF.out;rwa [List.take_length]at this⟩
     go_wp2_with fail
     go_ret2
     exact⟨HB.out.bel,some mb,by rw [HV.out];rfl,fun _=>⟨mb,rfl,HMW.out,HSD.out,HEE.out,HIN.out,HFD2.out⟩⟩
    case pos =>
     have hk0:(0:Int)≤(k:Int):=Int.natCast_nonneg k
     have hkz:(k:Int)<(s.length:Int):=Int.ofNat_lt.2 hlt
     obtain⟨b,off,rfl,hbl,d0,d1,d2,d3⟩:=HS.out.at hlt
     have hyk:s.getD k default=s[k]:=by rw [zg,ze hlt];rfl
     have HTK:Hid (s.take (k+1)=s.take k++[s.getD k default]):=zh (by rw [zs hlt,hyk])
     have HYM:Hid (s.getD k default∈s):=zh (by rw [hyk];exact List.getElem_mem hlt)
     have HYK:=zh (HYB.out _ HYM.out)
     have d0:=(HB.out.bel.cell (p:=⟨b,off+k*4,none⟩) hbl).trans d0
     have d1:=(HB.out.bel.cell (p:=⟨b,off+k*4+1,none⟩) hbl).trans d1
     have d2:=(HB.out.bel.cell (p:=⟨b,off+k*4+2,none⟩) hbl).trans d2
     have d3:=(HB.out.bel.cell (p:=⟨b,off+k*4+3,none⟩) hbl).trans d3
     clear hyk
     generalize hyd:s.getD k default=y at *
     have HYD:=zh hyd
     clear hyd
     have hbw:b<wr.heap.size:=Nat.lt_of_lt_of_le hbl HB.out.bel.size
     have HNY:=zh (zn wr (.cells #[.string y.1,intC y.2.1,intC y.2.2.1,intC y.2.2.2] 53))
     have hbq:=belQ wr (.cells #[.string y.1,intC y.2.1,intC y.2.2.1,intC y.2.2.2] 53)
     have HB11:=zh (HB.out.below hbq)
     have HM11:=zh (HMF.out.below hbq)
     have HSF11:=zh (HSF.out.imp (SideG.on hbq))
     clear hbq
     go_upto_region 12 with fail
     generalize wr.alloc (.cells #[.string y.1,intC y.2.1,intC y.2.2.1,intC y.2.2.2] 53)=W11 at *
     obtain⟨gy,hgy⟩:∃ gy,wr.heap.size=gy:=⟨_,rfl⟩
     rw [hgy]at HNY hbw
     simp only [hgy]
     clear d0 d1 d2 d3 hgy HB HMF HSF
     have hgyl:gy<W11.heap.size:=(zb HNY.out)
     have y0:W11.cell? ⟨gy,0,none⟩=some (.string y.1):=zw _ _ 0 _ _ _ HNY.out
     have y1:W11.cell? ⟨gy,1,none⟩=some (intC y.2.1):=zw _ _ 1 _ _ _ HNY.out
     have y2:W11.cell? ⟨gy,2,none⟩=some (intC y.2.2.1):=zw _ _ 2 _ _ _ HNY.out
     have y3:W11.cell? ⟨gy,3,none⟩=some (intC y.2.2.2):=zw _ _ 3 _ _ _ HNY.out
     have c0:=HB11.out.c0
     have c1:=HB11.out.c1
     go_wp2_with fail
     refine(HFI.out _ y HYK.out HB11.out.bel).mono ?_
     rintro e w12 ⟨r',rfl,hrr,hb12⟩
     obtain⟨o,ho⟩:∃ o,findX X y=o:=⟨_,rfl⟩
     have HFX:Hid (findR X y=o):=zh (by rw [← ho];unfold findX;rw [if_pos HEE.out])
     rw [ho]at hrr ⊢
     clear ho
     have HRR:=zh hrr
     have HB12:=zh (HB11.out.below hb12)
     have HM12:=zh (HM11.out.below hb12)
     have HSF12:=zh (HSF11.out.imp (SideG.on hb12))
     have HNY12:=zh ((hb12.block gy hgyl).trans HNY.out)
     have hgy12:gy<w12.heap.size:=Nat.lt_of_lt_of_le hgyl hb12.size
     clear hrr hb12 y0 y1 y2 y3 c0 c1 HB11 HM11 HSF11 HNY hgyl
     cases o with
     | none =>
      have HV:=zh (zkq HEE.out HIN.out ⟨y,HYM.out,HFX.out⟩)
      simp only [Option.getD_none,Option.isSome_none]at HRR ⊢
      generalize (default:RelL)=x0 at *
      obtain⟨xa,xc,hr⟩:∃ a c,r'=.slice a x0.reqs.length c:=by obtain⟨a,c,e,_⟩:=HRR.out.now;exact⟨a,c,e⟩
      subst hr
      have HBE:=zh (HB12.out.below (belQ w12 (.cells (relC x0 (.slice xa x0.reqs.length xc)) 82)))
      simp only [relC]at HBE ⊢
      go_wp2_with fail
      go_ret2
      exact NewR.no HBE.out.bel HV.out (by decide)
     | some x =>
      have HFP:=zh (zho HQB.out HFX.out)
      have hbq:=belQ w12 (.cells (relC x r') 82)
      have HB13:=zh (HB12.out.below hbq)
      have HM13:=zh (HM12.out.below hbq)
      have HSF13:=zh (HSF12.out.imp (SideG.on hbq))
      have HRR13:=zh (HRR.out.below hbq).now
      have HNY13:=zh ((hbq.block gy hgy12).trans HNY12.out)
      have HXB:=zh (BoxR.made w12 x r')
      clear hbq HB12 HM12 HSF12 HNY12 HRR
      obtain⟨xa,xc,hr⟩:∃ a c,r'=.slice a x.reqs.length c:=by obtain⟨a,c,e,_⟩:=HRR13.out;exact⟨a,c,e⟩
      subst hr
      simp only [Option.getD_some,Option.isSome_some]at HRR13 ⊢
      simp only [relC]at HB13 HM13 HSF13 HRR13 HNY13 HXB ⊢
      go_upto_region 15 with fail
      generalize w12.alloc (.cells #[.string x.path,intC x.ver.1,intC x.ver.2.1,intC x.ver.2.2,.slice xa x.reqs.length xc,.string x.ar,.string x.ifc,.string x.cert,.bool x.yk] 82)=W13 at *
      obtain⟨gx,hgx⟩:∃ gx,w12.heap.size=gx:=⟨_,rfl⟩
      rw [hgx]at HXB
      simp only [hgx]
      clear hgx
      have y0:W13.cell? ⟨gy,0,none⟩=some (.string y.1):=zw _ _ 0 _ _ _ HNY13.out
      have hyx:y.1=x.path:=by rw [← HFP.out.2.1];rfl
      rw [hyx]at y0
      clear hyx
      obtain⟨x0,x1,x2,x3,x4,x5,x6,x7,x8⟩:=HXB.out.cells
      have hps:=HFP.out.1
      have HGX:Hid (SideG X W13 x (.slice xa x.reqs.length xc)):=zh ⟨HFP.out.2.2,HRR13.out⟩
      have HPUT:Hid (∀ W',MapF prog 9 W' mb (k+1) (putF f (.string x.path.data.toList) (.agg (relC x (.slice xa x.reqs.length xc))))→W13.grownBy W' (some mb)→(∃ f,MapF prog 9 W' mb (k+1) f∧SelF (SideG X W') (s.take (k+1)) f)∧IdxBx w (.slice va vn vc) iv W'):=zh (fun W' h11 g11=>by
       have hk:∀ x r,SideG X W13 x r→SideG X W' x r:=fun x2 r2 h=>⟨h.1,(zge h.2 (zq _) g11 (fun o v=>zg1 HM13.out o v)).mono g11.size⟩
       exact⟨⟨_,h11,(HSF13.out.put hlt (HFP.out.2.1.trans HYD.out.symm) HGX.out).imp hk⟩,HB13.out.grown g11 (fun b hb=>by cases hb;exact HMW.out)⟩)
      simp only [relC]at HPUT
      have HFD2:Hid (∀ y∈s.take (k+1),(findR X y).isSome=true):=zh (fun z hz=>by
       rw [HTK.out]at hz
       rcases List.mem_append.1 hz with h | h
       ·exact HFD.out z h
       ·rw [List.mem_singleton.1 h,HFX.out];rfl)
      clear HSF13 HB13 HGX HRR13 HFX HYM HYK HTK HFD
      go_wp2_with (refine z17 rfl _ _ _ _ rfl 9 82 lawStr underlying75 mb k f (by rfl) HM13.out (by unfold maxLen;omega) _ _ (.string x.path.data.toList) rfl rfl (keyStr hps) ?_;intro W' h11 g11;have HJ:=zh (HPUT.out W' h11 g11);clear h11 g11)
      all_goals
       refine⟨zh ⟨k+1,hlt,by go_num,HJ.out.1,HJ.out.2,HFD2.out⟩,?_⟩
       simp [intOf];omega
  case pos =>
   have hkm:k - 1<s.length:=by omega
   obtain⟨b,off,rfl,hbl,d0,_⟩:=HS.out.at hkm
   obtain⟨b',off',e2,_,f0,_⟩:=HS.out.at hlt
   cases e2
   have HST:Hid (ltB (s.getD (k - 1) default).1 (s.getD k default).1=true→incrK s (k+1)):=zh (fun h=>z8g HIK.out (fun _=>h))
   have HNO:Hid (¬ ltB (s.getD (k - 1) default).1 (s.getD k default).1=true→¬ incrS s):=zh (fun h hi=>by
    have hp:=List.pairwise_iff_getElem.1 hi (k - 1) k hkm hlt (by omega)
    rw [zg,zg,ze hkm,ze hlt]at h
    exact h hp)
   have d0:=(HB.out.bel.cell (p:=⟨b,off+(k - 1)*4,none⟩) hbl).trans d0
   have f0:=(HB.out.bel.cell (p:=⟨b,off+k*4,none⟩) hbl).trans f0
   generalize (s.getD (k - 1) default).1=pa at *
   generalize (s.getD k default).1=pb at *
   have hsub:wrap64 ((k:Int) - 1)=((k - 1:Nat):Int):=zcp hk1 hlt hs
   have hsub2:IntKind.i64.wrap ((k:Int) - 1)=((k - 1:Nat):Int):=by rw [IntWalk.i64_in _ (by omega)];omega
   have hi0:(0:Int)≤((k - 1:Nat):Int):=Int.natCast_nonneg _
   have hi1:((k - 1:Nat):Int)<(s.length:Int):=Int.ofNat_lt.2 hkm
   have hi2:(0:Int)≤(k:Int):=Int.natCast_nonneg _
   have hi3:(k:Int)<(s.length:Int):=Int.ofNat_lt.2 hlt
   clear HIK
   by_cases hc:ltB pa pb=true
   case pos =>
    have hc2:Op.bytesLess pa.toList pb.toList=true:=hc
    have HI2:=zh (HST.out hc)
    clear hc HST HNO
    go_wp2_with fail
    go_quiet (fail)
    go_wp2_with fail
    all_goals
     refine⟨zh ⟨k+1,by omega,.inl hlt,by go_num,HI2.out,HB.out.below (below_drewN (Below.refl _ _) _)⟩,?_⟩
     simp [intOf];omega
   case neg =>
    have hc1:ltB pa pb=false:=by simpa using hc
    have hc2:Op.bytesLess pa.toList pb.toList=false:=hc1
    have HV:=zh (zf0 (X:=X) (s:=s) (.inr (HNO.out hc)))
    clear hc hc1 HST HNO
    go_wp2_with fail
    go_quiet (fail)
    go_wp2_with fail
    go_ret2
    exact NewR.no (below_drewN HB.out.bel _) HV.out (by decide)
end
section
open Go.Proofs.Tryz Go Go.RowKit Go.Maps
def RangesF (P:Program)(k:TypeId)(W:World)(b r n:Nat)(f:Lit→Option Value)(left:Lit→Bool)(cnt:Nat):Prop :=
 ∃ D:DataW Value,W.ranges P k RV b r n D left cnt∧Tidy D∧(∀ q,Maps.has D q=(f q).isSome)∧∀ q z,D.atKey q z=match f q with | some v=>.held v | none=>z
variable {P:Program} {k:TypeId} {W:World} {b r n cnt:Nat} {f:Lit→Option Value} {left:Lit→Bool}
theorem RangesF.kept {W':World}{row:Option Nat}(h:RangesF P k W b r n f left cnt)(hg:W.grownBy W' row)(h1:some b≠row)(h2:some r≠row):RangesF P k W' b r n f left cnt:=by
 obtain⟨D,h3,h4⟩:=h
 exact⟨D,h3.kept hg h1 h2,h4⟩
theorem RangesF.lt (h:RangesF P k W b r n f left cnt):r<W.heap.size:=by
 obtain⟨D,⟨es,clock,since,seen,c0,_,_,_,_,hr,_⟩,_⟩:=h
 exact(zb hr)
theorem RangesF.alloc (h:RangesF P k W b r n f left cnt)(o:Obj):RangesF P k (W.alloc o) b r n f left cnt:=by
 obtain⟨D,h3,h4⟩:=h
 exact⟨D,h3.alloc o,h4⟩
theorem RangesF.left_eq (h:RangesF P k W b r n f left cnt):W.rangeLeft b r=cnt:=by
 obtain⟨D,h3,h4⟩:=h
 exact h3.left_eq
theorem z81 {ops:Array Oper}{rest:List Oper}{o:Oper}{a:Act}{Q:Exit→Act→World→Prop}
  (hg:o.guard=none) (m:Operand) (t:TypeId) (hop:o.op=Op.range t m) (e:TypeId) (K:Keyed P k) (ht:P.underlying t=some (.map k e))
  (hm:a.eval m=.map (some b)) (hown:MapF P k W b n f)
  (hK:∀ w' cnt,RangesF P k w' b W.heap.size n f (fun q=>(f q).isSome) cnt→W.grownBy w' none→w'.heap.size=W.heap.size+1→wpList P ops Q rest (a.put o.dst (.pointer (some ⟨W.heap.size,0,none⟩))) w') :
  wpList P ops Q (o::rest) a W:=by
 obtain⟨D,h1,h2,h3,h4⟩:=hown
 refine wpList_range_own W hg m t hop k e K ht RV b n D hm h1 fun w' g1 g2 g3=>hK w' (Maps.size D) ⟨D,?_,h2,h3,h4⟩ g2 g3
 have:Maps.has D=fun q=>(f q).isSome:=funext h3
 rwa [this]at g1
theorem zaf {α:Type}{ops:Array Oper}{rest:List Oper}{o:Oper}{a:Act}{Q:Exit→Act→World→Prop}
  (hg:o.guard=none) (it:Operand) (hop:o.op=Op.next it false) (K:Keyed P k) (mkK:α→Value) (invK:∀ key kl,keyOf P k key=some kl→∃ x,key=mkK x)
  (hit:a.eval it=.pointer (some ⟨r,0,none⟩)) (h:RangesF P k W b r n f left cnt)
  (hDone:(∀ kl,left kl=false)→wpList P ops Q rest (a.put o.dst (.tuple #[.bool false])) W)
  (hMore:∀ (x:α) (v:Value) (kl:Lit) (w':World) (cnt':Nat),keyOf P k (mkK x)=some kl→left kl=true→f kl=some v→RangesF P k w' b r n f (fun z=>left z&&!z.sameKey kl) cnt'→cnt'<cnt →
   W.grownBy w' (some r)→w'.heap.size=W.heap.size→(Instr.entry (.pointer (some ⟨r,0,none⟩))).run P w'=.ok (.tuple #[mkK x,v]) w'→wpList P ops Q rest (a.put o.dst (.tuple #[.bool true,mkK x,v])) w') :
  wpList P ops Q (o::rest) a W:=by
 obtain⟨D,h1,h2,h3,h4⟩:=h
 refine wpList_next_ranges W hg it hop k K RV mkK (fun v:Value=>v) invK (fun v y _=>⟨v,rfl⟩) b r n D left cnt hit h1 (fun _ hl=>hDone hl) fun x c kl y w' cnt' hkey hlk hv hat hrg hlt hgr hsz hen=>?_
 have hf:f kl=some c:=by
  have h5:=hat (.lit (.bool false))
  have h6:=hat (.lit (.bool true))
  rw [h4]at h5 h6
  cases hfk:f kl with
  | none =>
   rw [hfk]at h5 h6
   rw [← h6]at h5
   injection h5 with h5
   injection h5 with h5
   cases h5
  | some u =>
   rw [hfk]at h5
   unfold RV at hv
   injection hv with hv
   rw [← hv]at h5
   injection h5 with h5
   rw [h5]
 exact hMore x c kl w' cnt' hkey hlk hf ⟨D,hrg,h2,h3,h4⟩ hlt hgr hsz hen
end
def inB (p:Int)(x:Int×Int):Bool:=decide (x.1≤p)&&decide (p<x.2)
theorem zd5 (s:List (Int×Int))(p:Int):hasB s p=((decide (0≤p)&&decide (p<1000000))&&s.any (inB p)):=rfl
theorem zk9 (pb:Nat)(p a b:Int)(W:World)(hc:W.cell? ⟨pb,0,none⟩=some (intC p)) :
  Calls prog 144 #[.agg #[intC a,intC b],.pointer (some ⟨pb,0,none⟩)] W fun e w'=>e=.returned (.bool (inB p (a,b)))∧Below W.heap.size W w':=by
 have hlt:pb<W.heap.size:=World.block_lt_of_cell? _ _ hc
 have hne:pb≠W.heap.size:=by omega
 by_cases h1:a≤p
 ·by_cases h2:p<b
  ·have HE:Hid (inB p (a,b)=true):=zh (by simp [inB,h1,h2])
   rw [HE.out]
   go_enter func144,ntmps144
   go_wp2
   go_ret
   exact⟨rfl,(by repeat (first | exact Below.refl _ _ | refine Below.drew ?_ | refine Below.alloc ?_ (by simp<;>omega) _ | refine Below.setCell ?_ (by simp<;>omega) _))⟩
  ·have HE:Hid (inB p (a,b)=false):=zh (by simp [inB,h1,h2])
   rw [HE.out]
   go_enter func144,ntmps144
   go_wp2
   go_ret
   exact⟨rfl,(by repeat (first | exact Below.refl _ _ | refine Below.drew ?_ | refine Below.alloc ?_ (by simp<;>omega) _ | refine Below.setCell ?_ (by simp<;>omega) _))⟩
 ·have HE:Hid (inB p (a,b)=false):=zh (by simp [inB,h1])
  rw [HE.out]
  go_enter func144,ntmps144
  go_wp2
  go_ret
  exact⟨rfl,(by repeat (first | exact Below.refl _ _ | refine Below.drew ?_ | refine Below.alloc ?_ (by simp<;>omega) _ | refine Below.setCell ?_ (by simp<;>omega) _))⟩
theorem zlo (v:Value)(s:List (Int×Int))(p:Int)(w:World)(hs:s.length≤1000000000)(hE:SpansOf w.heap.size v s w) :
  Calls prog 104 #[v,.int .i64 p] w fun e w'=>e=.returned (.bool (hasB s p))∧Below w.heap.size w w':=by
 have hb0:Below w.heap.size w (w.alloc (.cells #[intC p] 3)):=(Below.refl _ _).alloc (zq _) _
 have hcall:=zht 144 #[.pointer (some ⟨w.heap.size,0,none⟩)] (enters_of func144 (by kernel_rfl) rfl) (inB p) v s (w.alloc (.cells #[intC p] 3)) hs
  ((hE.below hb0 (zq _)).mono (by simp)) (fun W x _ hW=>(zk9 w.heap.size p x.1 x.2 W (by
   rw [hW.cell (p:=⟨w.heap.size,0,none⟩) (by simp)]
   simp [go_sem])).mono fun e w' h=>⟨h.1,hW.trans (h.2.mono hW.size)⟩)
 by_cases h0:0≤p
 ·by_cases h1:p<1000000
  ·have he:hasB s p=s.any (inB p):=by rw [zd5];simp [h0,h1]
   rw [he]
   generalize s.any (inB p)=q at *
   have HC:=zh hcall
   clear hcall he
   obtain⟨ao,ec,rfl,_⟩:=hE
   go_enter func104,ntmps104
   go_wp2_with ((with_reducible refine HC.out.mono ?_);rintro e w' ⟨rfl,hb⟩)
   go_ret
   exact⟨rfl,hb0.trans (hb.mono (by simp))⟩
  ·have he:hasB s p=false:=by rw [zd5];simp [h1]
   rw [he]
   clear hcall he
   go_enter func104,ntmps104
   go_wp2
   go_ret
   exact⟨rfl,hb0⟩
 ·have he:hasB s p=false:=by rw [zd5];simp [h0]
  rw [he]
  clear hcall he
  go_enter func104,ntmps104
  go_wp2
  go_ret
  exact⟨rfl,hb0⟩
theorem z4w (n:Int)(w:World):Calls prog 121 #[.int .i64 n] w fun e w'=>e=.returned (.bool (partB n))∧w=w':=by
 cases h:partB n with
 | true =>
  obtain⟨h1,h2⟩:=z6a h
  clear h
  go_enter func121,ntmps121
  go_wp2
  go_ret
  exact⟨rfl,rfl⟩
 | false =>
  rcases(show n<0∨(0≤n∧¬ n≤999) by have:=za5 h;omega)with h1 | ⟨h1,h2⟩
  all_goals
   clear h
   go_enter func121,ntmps121
   go_wp2
   go_ret
   exact⟨rfl,rfl⟩
theorem z8v (a b c:Int)(w:World):Calls prog 87 #[.agg #[.int .i64 a,.int .i64 b,.int .i64 c]] w fun e w'=>e=.returned (.bool (validB a b c))∧w'=w.alloc (.cells #[.int .i64 a,.int .i64 b,.int .i64 c] 51):=by
 have HE:Hid (validB a b c=(partB a&&(partB b&&partB c))):=zh rfl
 obtain⟨v,hv⟩:∃ v,validB a b c=v:=⟨_,rfl⟩
 rw [hv]at HE ⊢
 clear hv
 cases h1:partB a with
 | false =>
  have HV:=zh (show v=false by rw [HE.out,h1];rfl)
  go_enter func87,ntmps87
  go_wp2_with (go_at_call 121;refine(z4w _ _).mono ?_;rintro e w' ⟨rfl,rfl⟩)
  go_ret
  exact⟨by rw [HV.out];rfl,rfl⟩
 | true =>
  cases h2:partB b with
  | false =>
   have HV:=zh (show v=false by rw [HE.out,h1,h2];rfl)
   go_enter func87,ntmps87
   go_wp2_with (go_at_call 121;refine(z4w _ _).mono ?_;rintro e w' ⟨rfl,rfl⟩)
   go_ret
   exact⟨by rw [HV.out];rfl,rfl⟩
  | true =>
   cases h3:partB c with
   | false =>
    have HV:=zh (show v=false by rw [HE.out,h1,h2,h3];rfl)
    go_enter func87,ntmps87
    go_wp2_with (go_at_call 121;refine(z4w _ _).mono ?_;rintro e w' ⟨rfl,rfl⟩)
    go_ret
    exact⟨by rw [HV.out];rfl,rfl⟩
   | true =>
    have HV:=zh (show v=true by rw [HE.out,h1,h2,h3];rfl)
    go_enter func87,ntmps87
    go_wp2_with (go_at_call 121;refine(z4w _ _).mono ?_;rintro e w' ⟨rfl,rfl⟩)
    go_ret
    exact⟨by rw [HV.out];rfl,rfl⟩
def placeV (a b c:Int):Int×Int:=if validB a b c=true then(1000*b+c,0) else(0,2)
def atV (m p:Int):(Int×Int×Int)×Int:=if partB m=true∧0≤p∧p<1000000 then((m,p / 1000,p % 1000),0) else((0,0,0),2)
theorem z6i (a b c:Int)(w:World):Calls prog 103 #[.agg #[.int .i64 a,.int .i64 b,.int .i64 c]] w fun e w'=>e=.returned (.tuple #[.int .i64 (placeV a b c).1,.int .i64 (placeV a b c).2])∧Below w.heap.size w w':=by
 by_cases hv:validB a b c=true
 ·have HE:=zh (show placeV a b c=(1000*b+c,0) by unfold placeV;rw [if_pos hv])
  rw [HE.out]
  obtain⟨⟨a0,a1⟩,⟨b0,b1⟩,c0,c1⟩:=zfg hv
  go_enter func103,ntmps103
  go_wp2_with (go_at_call 142;refine(z6j _ _ _ _).mono ?_;rintro e w' ⟨rfl,rfl⟩)
  go_ret2
  exact⟨rfl,(by repeat (first | exact Below.refl _ _ | refine Below.drew ?_ | refine Below.alloc ?_ (by simp<;>omega) _ | refine Below.setCell ?_ (by simp<;>omega) _))⟩
 ·have hv:validB a b c=false:=by simpa using hv
  have HE:=zh (show placeV a b c=(0,2) by unfold placeV;rw [hv];rfl)
  rw [HE.out]
  go_enter func103,ntmps103
  go_wp2_with (go_at_call 142;refine(z6j _ _ _ _).mono ?_;rintro e w' ⟨rfl,rfl⟩)
  go_ret2
  exact⟨rfl,(by repeat (first | exact Below.refl _ _ | refine Below.drew ?_ | refine Below.alloc ?_ (by simp<;>omega) _ | refine Below.setCell ?_ (by simp<;>omega) _))⟩
section
open Go.Proofs.Tryz Go Go.RowKit Go.Maps
theorem z0y {X:List RelL}(hX:checkX X=0){y:SelL}(h:(findR X y).isSome=true):validB y.2.1 y.2.2.1 y.2.2.2=true:=by
 obtain⟨x,hx⟩:=Option.isSome_iff_exists.1 h
 unfold findR at hx
 have h1:=z80 hX (List.mem_of_find?_eq_some hx)
 have h2:keyL x=y:=by have:=List.find?_some hx;simpa using this
 rw [← h2]
 exact h1
theorem zc9 {X:List RelL}(hX:checkX X=0){x:RelL}(hx:x∈X):reqsOf X (keyL x)=x.reqs:=by
 obtain⟨i,hi,rfl⟩:=List.mem_iff_getElem.1 hx
 have:=zeg (zei hX) hi
 rw [zg,ze hi]at this
 simp only [Option.getD_some]at this
 unfold reqsOf
 rw [this]
theorem z4x (X:List RelL)(s:List SelL)(hX:checkX X=0)(hi:incrS s)(hfd:∀ y∈s,(findR X y).isSome=true)(q:ReqL)(r:Value)(m:Nat)(W:World)(hq:q.1.size≤1000000)(hl:q.2.length≤1000000000)(hS:SpansOf W.heap.size r q.2 W)(hm:SideAt X s m W) :
  Calls prog 70 #[.map (some m),.agg #[.string q.1,r]] W fun e w'=>e=.returned (.bool (metB s q))∧Below W.heap.size W w':=by
 obtain⟨f,hmf,hF⟩:=hm
 have hn:=z2z hi
 have HKY:=zh (keyStr (p:=q.1) (by unfold maxLen;omega))
 have HMF:=zh (hmf.alloc (.cells #[.string q.1,r] 89))
 have HZR:=zh (show ∀ W,(zeroValue 82).run prog W=.ok zeroR W from zeroValue82)
 have HSS:=zh hS
 obtain⟨ra,rc,rfl⟩:=zo hS
 rcases hF q.1 with ⟨x,rx,h1,h2,h3,h4⟩ | ⟨h1,h2⟩
 ·have hvx:=z0y hX (hfd _ h1)
  obtain⟨xa,xc,rfl⟩:∃ a c,rx=.slice a x.reqs.length c:=by obtain⟨_,a,c,e,_⟩:=h3;exact⟨a,c,e⟩
  obtain⟨pq,sq⟩:=q
  simp only at hq hl hS HKY HMF HSS h2 h4 ⊢
  subst h2
  have HME:=zh (zkk (q:=(x.path,sq)) hn h1 rfl)
  have HVB:=zh (show placeV x.ver.1 x.ver.2.1 x.ver.2.2=(1000*x.ver.2.1+x.ver.2.2,0) by unfold placeV;rw [if_pos (show validB x.ver.1 x.ver.2.1 x.ver.2.2=true from hvx)])
  obtain⟨mb,hmb⟩:∃ mb,metB s (x.path,sq)=mb:=⟨_,rfl⟩
  rw [hmb]
  have HHB:=zh (show hasB sq (1000*x.ver.2.1+x.ver.2.2)=mb from HME.out.symm.trans hmb)
  have HPL:=zh (fun W=>z6i x.ver.1 x.ver.2.1 x.ver.2.2 W)
  rw [HVB.out]at HPL
  have HHA:=zh (fun W' (hb:Below W.heap.size W W')=>zlo (.slice ra sq.length rc) sq (1000*x.ver.2.1+x.ver.2.2) W' hl ((HSS.out.below hb (zq _)).mono hb.size))
  rw [HHB.out]at HHA
  obtain⟨p,⟨v1,v2,v3⟩,rq,sa,si,sc,yk⟩:=x
  have HFE:=zh (show(f (.string p.data.toList)).getD zeroR=.agg (relC ⟨p,(v1,v2,v3),rq,sa,si,sc,yk⟩ (.slice xa rq.length xc)) by rw [h4];rfl)
  have HFS:=zh (show(f (.string p.data.toList)).isSome=true by rw [h4];rfl)
  simp only [relC]at HFE HPL HHA HKY HMF
  generalize 1000*v2+v3=pl at *
  clear h1 h3 h4 hmb HME HVB HHB hS hmf hF hvx
  have HB1:Hid (Below W.heap.size W ((W.alloc (.cells #[.string p,.slice ra sq.length rc] 89)).alloc (.cells (relC ⟨p,(v1,v2,v3),rq,sa,si,sc,yk⟩ (.slice xa rq.length xc)) 82))):=zh (by repeat (first | exact Below.refl _ _ | refine Below.drew ?_ | refine Below.alloc ?_ (by simp<;>omega) _ | refine Below.setCell ?_ (by simp<;>omega) _))
  have HX1:Hid (BoxR ((W.alloc (.cells #[.string p,.slice ra sq.length rc] 89)).alloc (.cells (relC ⟨p,(v1,v2,v3),rq,sa,si,sc,yk⟩ (.slice xa rq.length xc)) 82)) (W.heap.size+1) ⟨p,(v1,v2,v3),rq,sa,si,sc,yk⟩ (.slice xa rq.length xc)):=zh (by
   have:=BoxR.made (W.alloc (.cells #[.string p,.slice ra sq.length rc] 89)) ⟨p,(v1,v2,v3),rq,sa,si,sc,yk⟩ (.slice xa rq.length xc)
   rw [World.size_alloc]at this
   exact this)
  simp only [relC]at HB1 HX1
  have HC1:Hid (((W.alloc (.cells #[.string p,.slice ra sq.length rc] 89)).alloc (.cells #[.string p,intC v1,intC v2,intC v3,.slice xa rq.length xc,.string sa,.string si,.string sc,.bool yk] 82)).cell? ⟨W.heap.size,1,none⟩=some (.slice ra sq.length rc)):=zh (by
   rw [(belQ (W.alloc (.cells #[.string p,.slice ra sq.length rc] 89)) (.cells #[.string p,intC v1,intC v2,intC v3,.slice xa rq.length xc,.string sa,.string si,.string sc,.bool yk] 82)).cell (p:=⟨W.heap.size,1,none⟩) (by simp)]
   exact zw _ _ 1 _ _ _ (zn W _))
  go_enter func70,ntmps70
  go_upto_region 2 with (at_lookup;refine z0w rfl _ _ 75 rfl 9 82 lawStr underlying75 (HZR.out _) m s.length f (by rfl) HMF.out _ (.string p.data.toList) rfl HKY.out ?_;rw [HFE.out,HFS.out])
  generalize hW1:(W.alloc (.cells #[.string p,.slice ra sq.length rc] 89)).alloc (.cells #[.string p,intC v1,intC v2,intC v3,.slice xa rq.length xc,.string sa,.string si,.string sc,.bool yk] 82)=W1 at *
  clear hW1
  obtain⟨x0,x1,x2,x3,_⟩:=HX1.out.cells
  have hz:W.heap.size<W1.heap.size:=by have:=HX1.out.lt;omega
  simp only at x1 x2 x3
  go_wp2_with fail
  refine(HPL.out W1).mono ?_
  rintro e w2 ⟨rfl,hb2⟩
  have HB2:=zj HB1 hb2
  have q1:w2.cell? ⟨W.heap.size,1,none⟩=some (.slice ra sq.length rc):=(hb2.cell (p:=⟨W.heap.size,1,none⟩) hz).trans HC1.out
  clear hb2 x0 x1 x2 x3
  go_wp2_with fail
  refine(HHA.out _ HB2.out).mono ?_
  rintro e w3 ⟨rfl,hb3⟩
  have HB3:=zj HB2 hb3
  clear hb3
  go_wp2_with fail
  go_ret
  exact⟨rfl,HB3.out⟩
 ·have HME:=zh (zi7 h2)
  rw [HME.out]
  have HFE:=zh (show(f (.string q.1.data.toList)).getD zeroR=zeroR by rw [h1];rfl)
  have HFS:=zh (show(f (.string q.1.data.toList)).isSome=false by rw [h1];rfl)
  have HPL:=zh (fun W=>z6i 0 0 0 W)
  have HB1:Hid (Below W.heap.size W ((W.alloc (.cells #[.string q.1,.slice ra q.2.length rc] 89)).alloc (.cells #[.string ⟨#[]⟩,.int .i64 0,.int .i64 0,.int .i64 0,.slice none 0 0,.string ⟨#[]⟩,.string ⟨#[]⟩,.string ⟨#[]⟩,.bool false] 82))):=zh (by repeat (first | exact Below.refl _ _ | refine Below.drew ?_ | refine Below.alloc ?_ (by simp<;>omega) _ | refine Below.setCell ?_ (by simp<;>omega) _))
  have HX1:=zh (zn (W.alloc (.cells #[.string q.1,.slice ra q.2.length rc] 89)) (.cells #[.string ⟨#[]⟩,.int .i64 0,.int .i64 0,.int .i64 0,.slice none 0 0,.string ⟨#[]⟩,.string ⟨#[]⟩,.string ⟨#[]⟩,.bool false] 82))
  rw [World.size_alloc]at HX1
  unfold zeroR at HFE
  obtain⟨pv,hpv⟩:∃ pv,placeV 0 0 0=pv:=⟨_,rfl⟩
  rw [hpv]at HPL
  obtain⟨pl,pe⟩:=pv
  clear hmf h1 h2 hF hpv hS
  go_enter func70,ntmps70
  go_upto_region 2 with (at_lookup;refine z0w rfl _ _ 75 rfl 9 82 lawStr underlying75 (HZR.out _) m s.length f (by rfl) HMF.out _ (.string q.1.data.toList) rfl HKY.out ?_;unfold zeroR;rw [HFE.out,HFS.out])
  generalize hW1:(W.alloc (.cells #[.string q.1,.slice ra q.2.length rc] 89)).alloc (.cells #[.string ⟨#[]⟩,.int .i64 0,.int .i64 0,.int .i64 0,.slice none 0 0,.string ⟨#[]⟩,.string ⟨#[]⟩,.string ⟨#[]⟩,.bool false] 82)=W1 at *
  clear hW1
  have x1:W1.cell? ⟨W.heap.size+1,1,none⟩=some (.int .i64 0):=zw _ _ 1 _ _ _ HX1.out
  have x2:W1.cell? ⟨W.heap.size+1,2,none⟩=some (.int .i64 0):=zw _ _ 2 _ _ _ HX1.out
  have x3:W1.cell? ⟨W.heap.size+1,3,none⟩=some (.int .i64 0):=zw _ _ 3 _ _ _ HX1.out
  go_wp2_with fail
  refine(HPL.out W1).mono ?_
  rintro e w2 ⟨rfl,hb2⟩
  have HB2:=zj HB1 hb2
  clear hb2 x1 x2 x3
  go_wp2_with fail
  go_ret
  exact⟨rfl,HB2.out⟩
theorem zhg (X:List RelL)(s:List SelL)(hX:checkX X=0)(hi:incrS s)(hfd:∀ y∈s,(findR X y).isSome=true)(q:ReqL)(r:Value)(m c:Nat)(W:World)(hq:q.1.size≤1000000)(hl:q.2.length≤1000000000)(hS:SpansOf W.heap.size r q.2 W)(hm:SideAt X s m W)(hc:W.cell? ⟨c,0,none⟩=some (.map (some m))) :
  Calls prog 69 #[.agg #[.string q.1,r],.pointer (some ⟨c,0,none⟩)] W fun e w'=>e=.returned (.bool (!metB s q))∧Below W.heap.size W w':=by
 have hlt:=World.block_lt_of_cell? _ _ hc
 simp only at hlt
 have hbq:=belQ W (.cells #[.string q.1,r] 89)
 have HSA:=zh (z4x X s hX hi hfd q r m (W.alloc (.cells #[.string q.1,r] 89)) hq hl ((hS.below hbq (zq _)).mono hbq.size) (hm.below hbq))
 have HN:=zh (zn W (.cells #[.string q.1,r] 89))
 have HB:=zh hbq
 obtain⟨ra,rc,rfl⟩:=zo hS
 have hc1:(W.alloc (.cells #[.string q.1,.slice ra q.2.length rc] 89)).cell? ⟨c,0,none⟩=some (.map (some m)):=(HB.out.cell (p:=⟨c,0,none⟩) hlt).trans hc
 obtain⟨mb,hmb⟩:∃ mb,metB s q=mb:=⟨_,rfl⟩
 rw [hmb]at HSA ⊢
 clear hm hS hc hbq hmb
 go_enter func69,ntmps69
 go_upto_region 1 with fail
 generalize W.alloc (.cells #[.string q.1,.slice ra q.2.length rc] 89)=W1 at *
 have q0:W1.cell? ⟨W.heap.size,0,none⟩=some (.string q.1):=zw _ _ 0 _ _ _ HN.out
 have q1:W1.cell? ⟨W.heap.size,1,none⟩=some (.slice ra q.2.length rc):=zw _ _ 1 _ _ _ HN.out
 go_wp2_with fail
 refine HSA.out.mono ?_
 rintro e w2 ⟨rfl,hb2⟩
 have HB2:=zj HB hb2
 clear hb2
 go_wp2_with fail
 go_ret
 exact⟨rfl,HB2.out⟩
theorem zfr (X:List RelL)(s:List SelL)(hX:checkX X=0)(hi:incrS s)(hfd:∀ y∈s,(findR X y).isSome=true)(es:List ReqL)(m c:Nat)(w:World)(hq:∀ q∈es,q.1.size≤1000000∧q.2.length≤1000000)(hm:SideAt X s m w)(hc:w.cell? ⟨c,0,none⟩=some (.map (some m))) :
  PredQ 69 #[.pointer (some ⟨c,0,none⟩)] es (fun q=>!metB s q) w:=by
 intro W x r hx hb hS
 have hlt:=World.block_lt_of_cell? _ _ hc
 simp only at hlt
 refine(zhg X s hX hi hfd x r m c W (hq x hx).1 (by have:=(hq x hx).2;omega) hS (hm.below hb) ((hb.cell (p:=⟨c,0,none⟩) hlt).trans hc)).mono ?_
 rintro e w' ⟨rfl,h⟩
 exact⟨rfl,hb.trans (h.mono hb.size)⟩
theorem zhi {X:List RelL}{s:List SelL}(h:newV X s≠0):consV X s=newV X s:=by
 unfold newV at h ⊢
 unfold consV
 by_cases h1:checkX X≠0∨¬ incrS s
 ·rw [if_pos h1,if_pos h1]
 ·rw [if_neg h1]at h
  rw [if_neg h1,if_neg h1]
  by_cases h2:∃ y∈s,findR X y=none
  ·rw [if_pos h2,if_pos h2]
  ·rw [if_neg h2]at h
   exact absurd rfl h
theorem zhh {X:List RelL}{s:List SelL}(h0:checkX X=0)(h1:incrS s)(h2:∀ y∈s,(findR X y).isSome=true){y:SelL}(hy:y∈s)(h:(reqsOf X y).any (fun q=>!metB s q)=true):consV X s=17:=by
 unfold consV
 rw [if_neg (fun g=>g.elim (fun a=>a h0) (fun a=>a h1)),if_neg (fun⟨y,hy,e⟩=>by have:=h2 y hy;rw [e]at this;cases this)]
 obtain⟨q,hq,e⟩:=List.any_eq_true.1 h
 rw [if_pos ⟨y,hy,q,hq,by simpa using e⟩]
def ConsR (X:List RelL)(s:List SelL)(w:World)(e:Ending)(w':World):Prop:=Below w.heap.size w w'∧∃ m:Option Nat,e=.returned (.tuple #[.map m,.int .i64 (consV X s)])∧(consV X s=0→∃ b,m=some b∧SideAt X s b w')
theorem ConsR.no {X:List RelL}{s:List SelL}{w w':World}{E:Int}(hb:Below w.heap.size w w')(h:consV X s=E)(h0:E≠0):ConsR X s w (.returned (.tuple #[.map none,.int .i64 E])) w':=⟨hb,none,by rw [h],fun e=>absurd (h.symm.trans e) h0⟩
theorem z2h (v iv sv:Value)(X:List RelL)(s:List SelL)(w:World)(hm:MaxOk w)(hX:X.length≤1000000)(hq:∀ x∈X,RelBd x)(hR:RelsOf w.heap.size v X w)
  (hs:s.length≤1000000) (hy:∀ y∈s,SelBd y) (hS:SelsOf w.heap.size sv s w) :
  Calls prog 37 #[.agg #[v,iv],sv] w (ConsR X s w):=by
 have HNW:=zh (fun W (hb:RowKit.Below w.heap.size w W)=>zdl v iv sv X s W (hm.below hb hm.pos) hX hq (hR.on hb) hs hy (hS.on hb))
 have HQB:=zh hq
 obtain⟨va,vn,vc,rfl⟩:∃ a n c,v=.slice a n c:=by obtain⟨a,c,_,e,_⟩:=hR.rv;exact⟨_,_,_,e⟩
 obtain⟨sa,sc,rfl⟩:=zo hS
 clear hm hq hR hS hy
 have HB0:=zh (IdxBx.start w (.slice va vn vc) iv)
 go_enter func37,ntmps37
 go_upto_region 1 with fail
 generalize w.alloc (.cells #[.slice va vn vc,iv] 25)=W at *
 have c0:=HB0.out.c0
 have c1:=HB0.out.c1
 unfold NewR at HNW
 obtain⟨E,hE⟩:∃ E,newV X s=E:=⟨_,rfl⟩
 rw [hE]at HNW
 have HEE:=zh hE
 clear hE
 go_wp2_with fail
 refine(HNW.out _ HB0.out.bel).mono ?_
 rintro e w1 ⟨hb1,m,rfl,hm1⟩
 have hbq:=belQ w1 (.cells #[.map m] 75)
 have HB2:=zh ((HB0.out.below hb1).below hbq)
 have HN2:=zh (zn w1 (.cells #[.map m] 75))
 have HSD:Hid (E=0→∃ b,m=some b∧SideAt X s b (w1.alloc (.cells #[.map m] 75))∧checkX X=0∧incrS s∧∀ y∈s,(findR X y).isSome=true):=zh (fun h=>by
  obtain⟨b,e,_,h1,h2,h3,h4⟩:=hm1 h
  exact⟨b,e,h1.below hbq,h2,h3,h4⟩)
 clear hb1 hm1 hbq c0 c1 HNW HB0
 by_cases hE0:E=0
 case neg =>
  have hE1:(E != 0)=true:=by simpa using hE0
  have HV:Hid (consV X s=E):=zh (by rw [zhi (by rw [HEE.out];exact hE0),HEE.out])
  go_wp2_with fail
  go_ret2
  exact ConsR.no HB2.out.bel HV.out hE0
 subst hE0
 obtain⟨b,e,hsd,h0,h1,h2⟩:=HSD.out rfl
 subst e
 have HCX:=zh h0
 have HIN:=zh h1
 have HFD:=zh h2
 have HSA:=zh hsd
 clear HSD hsd h0 h1 h2
 go_upto_region 4 with fail
 generalize w1.alloc (.cells #[.map (some b)] 75)=W2 at *
 obtain⟨gm,hgm⟩:∃ gm,w1.heap.size=gm:=⟨_,rfl⟩
 rw [hgm]at HN2
 simp only [hgm]
 clear hgm
 have hgl:gm<W2.heap.size:=(zb HN2.out)
 have m0:W2.cell? ⟨gm,0,none⟩=some (.map (some b)):=zw _ _ 0 _ _ _ HN2.out
 obtain⟨f,hmf,hsf⟩:=HSA.out
 have HMF:=zh hmf
 have HSF:=zh hsf
 have hbl:b<W2.heap.size:=hmf.lt
 clear hmf hsf
 go_wp2_with (at_range;refine z81 rfl _ 75 rfl 82 lawStr underlying75 (by rfl) HMF.out ?_;intro w3 cnt0 hrg0 hg0 hs0;have HG0:=zh hg0;have HR0:=zh hrg0;have HS0:=zh hs0;clear hg0 hrg0 hs0)
 generalize hri:W2.heap.size=ri at HR0 HS0 hbl hgl
 have HRI:=zh hri
 have HB0:Hid (Below ri W2 w3):=zh (by rw [← hri];exact(Below.refl _ _).grown HG0.out (zq _) (fun b hb=>by cases hb))
 have HSG:Hid (SelF (fun x r=>x∈X∧ReqsOf ri r x.reqs W2) s f):=zh (HSF.out.imp (fun x r h=>⟨h.1,by rw [← hri];exact h.2⟩))
 have HWI:Hid (w.heap.size≤ri):=zh (by rw [← hri];exact HB2.out.bel.size)
 clear hri
 (try simp only [zl1])
 go_loopw [] (fun wx=>Hid (∃ (left:Lit→Bool) (cnt:Nat),RangesF prog 9 wx b ri s.length f left cnt∧Below ri W2 wx∧∀ y∈s,left (.string y.1.data.toList)=false→(reqsOf X y).any (fun q=>!metB s q)=false)) (fun wx=>wx.rangeLeft b ri)
 case atStart =>
  exact zh ⟨_,cnt0,HR0.out,HB0.out,fun y hy hl=>by
   rcases HSG.out y.1 with ⟨x,r,_,_,_,h4⟩ | ⟨_,h2⟩
   ·have hl:(f (.string y.1.data.toList)).isSome=false:=hl
    rw [h4]at hl;cases hl
   ·exact absurd rfl (h2 y hy)⟩
 case round =>
  obtain⟨left,cnt,hrg,hbb,hlf⟩:=hrel.out
  have HRG:=zh hrg
  have HBB:=zh hbb
  have HLF:=zh hlf
  have m1:wr.cell? ⟨gm,0,none⟩=some (.map (some b)):=(hbb.cell (p:=⟨gm,0,none⟩) hgl).trans m0
  have HM0:=zh m0
  clear hrel hrg hbb hlf HR0 HG0 HS0 HB0 m0
  go_wp2_with (at_next;refine zaf rfl _ rfl lawStr (fun x:List UInt8=>Value.string ⟨x.toArray⟩) (fun key kl hk=>by obtain⟨x,e,_⟩:=Maps.keyOf_str underlying9 hk;exact⟨x,e⟩) (by rfl) HRG.out ?_ ?_)
  rotate_left
  ·intro x v kl w5 cnt1 hkey hlk hf hrg1 hlt1 hg1 hs1 hen
   obtain⟨x2,ex,rfl,_⟩:=Maps.keyOf_str underlying9 hkey
   obtain rfl:x=x2:=by
    have ex:Value.string ⟨x.toArray⟩=Value.string ⟨x2.toArray⟩:=ex
    injection ex with ex
    injection ex with ex
    simpa using ex
   obtain⟨y,r,hys,hyp,hG,hfy⟩:∃ y r,keyL y∈s∧y.path=⟨x.toArray⟩∧(y∈X∧ReqsOf ri r y.reqs W2)∧f (.string x)=some (.agg (relC y r)):=by
    rcases HSG.out ⟨x.toArray⟩with ⟨y,r,a,b,c,d⟩ | ⟨h,_⟩
    ·exact⟨y,r,a,b,c,by simpa using d⟩
    ·have h9:f (.string x)=none:=by simpa using h
     rw [h9]at hf;cases hf
   obtain rfl:v=.agg (relC y r):=Option.some.inj (hf.symm.trans hfy)
   have HYX:=zh hG.1
   have HRQ:=zh hG.2
   obtain⟨ya,yc,rfl⟩:=zo hG.2
   have HYS:=zh hys
   have HYP:=zh hyp
   have HR5:=zh hrg1
   have HLT:=zh hlt1
   have HLW:=zh HRG.out.left_eq
   have hr5:ri<w5.heap.size:=HR5.out.lt
   have HB5:Hid (Below ri W2 w5):=zh (HBB.out.grown hg1 (Nat.le_of_lt HRG.out.lt) (fun b hb=>by cases hb;exact zq _))
   have hyb:=HQB.out y hG.1
   have HYB:=zh hyb
   have hyl:y.reqs.length≤1000000000:=by have:=hyb.len;omega
   clear hkey hlk hf hfy hG hys hyp hrg1 hlt1 hg1 hs1 hyb m1
   simp only [relC]at hen ⊢
   have HB6:Hid (Below ri W2 (w5.alloc (.cells #[.string y.path,intC y.ver.1,intC y.ver.2.1,intC y.ver.2.2,.slice ya y.reqs.length yc,.string y.ar,.string y.ifc,.string y.cert,.bool y.yk] 82))):=zh (HB5.out.alloc (Nat.le_of_lt hr5) _)
   have HR6:=zh (HR5.out.alloc (.cells #[.string y.path,intC y.ver.1,intC y.ver.2.1,intC y.ver.2.2,.slice ya y.reqs.length yc,.string y.ar,.string y.ifc,.string y.cert,.bool y.yk] 82))
   have HX6:=zh (BoxR.made w5 y (.slice ya y.reqs.length yc))
   simp only [relC]at HX6
   go_upto_region 7 with fail
   clear hen
   generalize w5.alloc (.cells #[.string y.path,intC y.ver.1,intC y.ver.2.1,intC y.ver.2.2,.slice ya y.reqs.length yc,.string y.ar,.string y.ifc,.string y.cert,.bool y.yk] 82)=W6 at *
   obtain⟨gx,hgx⟩:∃ gx,w5.heap.size=gx:=⟨_,rfl⟩
   rw [hgx]at HX6
   simp only [hgx]
   obtain⟨_,_,_,_,x4,_⟩:=HX6.out.cells
   have hsz6:ri≤W6.heap.size:=by have h:=HB6.out.size;rwa [HRI.out]at h
   have HW26:Hid (Below W2.heap.size W2 W6):=zh (by rw [HRI.out];exact HB6.out)
   have m6:W6.cell? ⟨gm,0,none⟩=some (.map (some b)):=(HB6.out.cell (p:=⟨gm,0,none⟩) hgl).trans HM0.out
   have HRQ6:Hid (ReqsOf W6.heap.size (.slice ya y.reqs.length yc) y.reqs W6):=zh ((HRQ.out.below HB6.out (zq _)).mono hsz6)
   have HHC:=zh (zhs 69 #[.pointer (some ⟨gm,0,none⟩)] (enters_of func69 (by kernel_rfl) rfl) _ (.slice ya y.reqs.length yc) y.reqs W6 hyl HRQ6.out (zfr X s HCX.out HIN.out HFD.out y.reqs b gm W6 HYB.out.reqs (HSA.out.below HW26.out) m6))
   have HRR:Hid (reqsOf X (keyL y)=y.reqs):=zh (zc9 HCX.out HYX.out)
   obtain⟨bb,hbb⟩:∃ bb,(y.reqs.any fun q=>!metB s q)=bb:=⟨_,rfl⟩
   rw [hbb]at HHC
   have HBBB:=zh hbb
   clear hbb hgx m6
   go_wp2_with fail
   refine HHC.out.mono ?_
   rintro e w7 ⟨rfl,hb7⟩
   have HB7:=zh (HB6.out.trans (hb7.mono hsz6))
   have HR7:=zh (HR6.out.kept (row:=none) ⟨hb7.os,hb7.tape,hb7.output,hb7.size,fun i hi _=>hb7.block i hi⟩ (by simp) (by simp))
   clear hb7 HHC x4
   cases bb with
   | true =>
    have HV:=zh (zhh HCX.out HIN.out HFD.out HYS.out (by rw [HRR.out];exact HBBB.out))
    have HBW:Hid (Below w.heap.size w w7):=zh (HB2.out.bel.trans (HB7.out.mono HWI.out))
    go_wp2_with fail
    go_ret2
    exact ConsR.no HBW.out HV.out (by decide)
   | false =>
    have HL2:Hid (∀ z∈s,(fun z=>left z&&!z.sameKey (.string x)) (.string z.1.data.toList)=false→(reqsOf X z).any (fun q=>!metB s q)=false):=zh (fun z hz hl=>by
     have hl:(left (.string z.1.data.toList)&&!(Lit.string z.1.data.toList).sameKey (.string x))=false:=hl
     rw [Bool.and_eq_false_iff]at hl
     rcases hl with hl | hl
     ·exact HLF.out z hz hl
     ·have hk:(Lit.string z.1.data.toList).sameKey (.string x)=true:=by simpa using hl
      have hzx:z.1.data.toList=x:=by simpa [Lit.sameKey]using hk
      have hzp:z.1=y.path:=by rw [HYP.out,← hzx]
      have hze:z=keyL y:=z4m HIN.out hz HYS.out hzp
      rw [hze,HRR.out];exact HBBB.out)
    go_wp2_with fail
    go_roundw
    case rel=>exact zh ⟨_,cnt1,HR7.out,HB7.out,HL2.out⟩
    case measure=>rw [HR7.out.left_eq,HLW.out];exact HLT.out
  ·intro hl0
   have HV:Hid (consV X s=0):=zh (z0b.2 ⟨HCX.out,HIN.out,HFD.out,fun y hy=>zlp (HLF.out y hy (hl0 _)),fun q hq=>by cases hq⟩)
   have HBW:Hid (Below w.heap.size w wr):=zh (HB2.out.bel.trans (HBB.out.mono HWI.out))
   have HSE:Hid (SideAt X s b wr):=zh (HSA.out.below (by rw [HRI.out];exact HBB.out))
   clear hl0
   go_wp2_with fail
   go_ret2
   exact⟨HBW.out,some b,by rw [HV.out];rfl,fun _=>⟨b,rfl,HSE.out⟩⟩
theorem z44 (v iv sv:Value)(X:List RelL)(s:List SelL)(w:World)(hm:MaxOk w)(hX:X.length≤1000000)(hq:∀ x∈X,RelBd x)(hR:RelsOf w.heap.size v X w)
  (hs:s.length≤1000000) (hy:∀ y∈s,SelBd y) (hS:SelsOf w.heap.size sv s w) :
  Calls prog 13 #[.agg #[v,iv],sv] w fun e w'=>e=.returned (.int .i64 (consV X s))∧Below w.heap.size w w':=by
 have HC:=zh (fun W (hb:RowKit.Below w.heap.size w W)=>z2h v iv sv X s W (hm.below hb hm.pos) hX hq (hR.on hb) hs hy (hS.on hb))
 obtain⟨va,vn,vc,rfl⟩:∃ a n c,v=.slice a n c:=by obtain⟨a,c,_,e,_⟩:=hR.rv;exact⟨_,_,_,e⟩
 obtain⟨sa,sc,rfl⟩:=zo hS
 clear hm hq hR hS hy
 unfold ConsR at HC
 generalize consV X s=E at *
 have HB0:=zh (IdxBx.start w (.slice va vn vc) iv)
 go_enter func13,ntmps13
 go_upto_region 1 with fail
 generalize w.alloc (.cells #[.slice va vn vc,iv] 25)=W at *
 have c0:=HB0.out.c0
 have c1:=HB0.out.c1
 go_wp2_with fail
 refine(HC.out _ HB0.out.bel).mono ?_
 rintro e w1 ⟨hb1,m,rfl,_⟩
 have HB1:=zh (HB0.out.below hb1)
 clear hb1 c0 c1 HC
 go_wp2_with fail
 go_ret
 exact⟨rfl,HB1.out.bel⟩
end
section
open Go.Proofs.Tryz Go
structure PartP (N:Nat)(es:List (Int×Int))(L:List (List Nat))(pos:Nat→Nat):Prop where
 mem:∀ (i:Nat) (row:List Nat),L[i]? = some row→∀ n,n∈row ↔ n<N∧pos n=i
 srt:∀ (i:Nat) (row:List Nat),L[i]? = some row→row.Pairwise (· < ·)∧0<row.length
 lt:∀ n,n<N→pos n<L.length
 down:∀ a b:Nat,a<N→b<N→((a:Int),(b:Int))∈es→pos b≤pos a
def nameL (P:List ByteArray)(L:List (List Nat)):List (List ByteArray):=L.map fun row=>row.map fun n=>P.getD n default
structure PlanP (X:List RelL)(f t:List SelL)(plan:List (List ByteArray)):Prop where
 ne:∀ l∈plan,l≠[]∧IncB l
 nod:plan.flatten.Nodup
 mem:∀ p,p∈plan.flatten ↔ p∈movesP f t
 cons:∀ i,i<plan.length→ConsP X (betV f t (plan.take (i+1)).flatten)
theorem IncB.at {P:List ByteArray}(h:IncB P){i j:Nat}(hij:i<j)(hj:j<P.length):ltB (P.getD i default) (P.getD j default)=true:=by
 rw [zg,zg,ze hj,ze (Nat.lt_trans hij hj)]
 exact List.pairwise_iff_getElem.1 h i j (Nat.lt_trans hij hj) hj hij
theorem IncB.inj {P:List ByteArray}(h:IncB P){i j:Nat}(hi:i<P.length)(hj:j<P.length)(e:P.getD i default=P.getD j default):i=j:=by
 rcases Nat.lt_trichotomy i j with g | g | g
 ·have:=h.at g hj;rw [e,z0c]at this;cases this
 ·exact g
 ·have:=h.at g hi;rw [e,z0c]at this;cases this
theorem zk4 {P:List ByteArray}{i:Nat}(hi:i<P.length):P.getD i default∈P:=by
 rw [zg,ze hi];exact List.getElem_mem hi
theorem z9z {P:List ByteArray}{p:ByteArray}(h:p∈P):∃ i,i<P.length∧P.getD i default=p:=by
 obtain⟨i,hi,rfl⟩:=List.mem_iff_getElem.1 h
 exact⟨i,hi,by rw [zg,ze hi];rfl⟩
theorem z79 {P:List ByteArray}(hP:IncB P){es:List (Int×Int)}{L:List (List Nat)}{pos:Nat→Nat}(h:PartP P.length es L pos){x:Nat}(hx:x<P.length)(k:Nat):P.getD x default∈((nameL P L).take k).flatten ↔ pos x<k:=by
 unfold nameL
 rw [← List.map_take,List.mem_flatten]
 constructor
 ·rintro⟨l,hl,hm⟩
  obtain⟨row,hr,rfl⟩:=List.mem_map.1 hl
  obtain⟨n,hn,e⟩:=List.mem_map.1 hm
  obtain⟨i,hi⟩:=List.mem_iff_getElem?.1 hr
  rw [List.getElem?_take]at hi
  split at hi
  ·rename_i hik
   obtain⟨h1,h2⟩:=(h.mem i row hi n).1 hn
   have:=hP.inj h1 hx e
   subst this
   omega
  ·cases hi
 ·intro hk
  have hl:=h.lt x hx
  refine⟨L[pos x].map fun n=>P.getD n default,List.mem_map.2 ⟨L[pos x],?_,rfl⟩,List.mem_map.2 ⟨x,(h.mem (pos x) _ (ze hl) x).2 ⟨hx,rfl⟩,rfl⟩⟩
  exact List.mem_iff_getElem?.2 ⟨pos x,by rw [List.getElem?_take,if_pos hk,ze hl]⟩
theorem zc0 {X:List RelL}{f t:List SelL}(hf:ConsP X f)(ht:ConsP X t){L:List (List Nat)}{pos:Nat→Nat}(h:PartP (movesP f t).length (wavE X f t) L pos):PlanP X f t (nameL (movesP f t) L):=by
 have hP:=z1r hf.incr ht.incr
 have hall:∀ p,p∈(nameL (movesP f t) L).flatten ↔ p∈movesP f t:=fun p=>by
  constructor
  ·intro hp
   obtain⟨l,hl,hm⟩:=List.mem_flatten.1 hp
   unfold nameL at hl
   obtain⟨row,hr,rfl⟩:=List.mem_map.1 hl
   obtain⟨n,hn,rfl⟩:=List.mem_map.1 hm
   obtain⟨i,hi⟩:=List.mem_iff_getElem?.1 hr
   exact zk4 ((h.mem i row hi n).1 hn).1
  ·intro hp
   obtain⟨x,hx,rfl⟩:=z9z hp
   have h1:=(z79 hP h hx (nameL (movesP f t) L).length).2 (by unfold nameL;rw [List.length_map];exact h.lt x hx)
   rwa [List.take_length]at h1
 refine⟨fun l hl=>?_,?_,hall,fun i hi=>?_⟩
 ·unfold nameL at hl
  obtain⟨row,hr,rfl⟩:=List.mem_map.1 hl
  obtain⟨i,hi⟩:=List.mem_iff_getElem?.1 hr
  obtain⟨h1,h2⟩:=h.srt i row hi
  refine⟨fun e=>by rw [List.map_eq_nil_iff]at e;rw [e]at h2;simp at h2,?_⟩
  unfold IncB
  rw [List.pairwise_map]
  exact h1.imp_of_mem fun {a b} _ hb hab=>hP.at hab ((h.mem i row hi b).1 hb).1
 ·unfold List.Nodup
  rw [List.pairwise_flatten]
  unfold nameL
  refine⟨fun l hl=>?_,?_⟩
  ·obtain⟨row,hr,rfl⟩:=List.mem_map.1 hl
   obtain⟨i,hi⟩:=List.mem_iff_getElem?.1 hr
   rw [List.pairwise_map]
   exact(h.srt i row hi).1.imp_of_mem fun {a b} ha hb hab e=>by
    have:=hP.inj ((h.mem i row hi a).1 ha).1 ((h.mem i row hi b).1 hb).1 e
    omega
  ·rw [List.pairwise_map,List.pairwise_iff_getElem]
   intro i j hi hj hij x hx y hy e
   obtain⟨a,ha,rfl⟩:=List.mem_map.1 hx
   obtain⟨b,hb,rfl⟩:=List.mem_map.1 hy
   obtain⟨h1,h2⟩:=(h.mem i _ (ze hi) a).1 ha
   obtain⟨h3,h4⟩:=(h.mem j _ (ze hj) b).1 hb
   have:=hP.inj h1 h3 e
   subst this
   omega
 ·rw [zjq hf ht]
  intro a ha b hb ham hbm
  obtain⟨x,hx,rfl⟩:=z9z ha
  obtain⟨y,hy,rfl⟩:=z9z hb
  cases hn:needB X f t ((movesP f t).getD x default) ((movesP f t).getD y default)with
  | false=>rfl
  | true =>
   have he:((x:Int),(y:Int))∈wavE X f t:=za0.2 ⟨x,y,hx,hy,hn,rfl⟩
   have h1:=h.down x y hx hy he
   have h2:=(z79 hP h hx (i+1)).1 ham
   exact absurd ((z79 hP h hy (i+1)).2 (by omega)) hbm
theorem zh5 {f t:List SelL}(hf:incrS f)(ht:incrS t){m:List ByteArray}{X:List RelL}(cf:ConsP X f)(ct:ConsP X t)(h:∀ p∈movesP f t,p∈m):betV f t m=t:=by
 have key:∀ {a b:List SelL},incrS a→incrS b→(∀ y,y∈a ↔ y∈b)→a=b:=by
  intro a
  induction a with
  | nil =>
   intro b _ _ h
   cases b with
   | nil=>rfl
   | cons y b=>have:=(h y).2 (by simp);cases this
  | cons x a ih =>
   intro b ha hb h
   cases b with
   | nil=>have:=(h x).1 (by simp);cases this
   | cons y b =>
    obtain⟨h1,h2⟩:=List.pairwise_cons.1 ha
    obtain⟨h3,h4⟩:=List.pairwise_cons.1 hb
    have e:x=y:=by
     rcases List.mem_cons.1 ((h x).1 (by simp))with e | hx
     ·exact e
     ·rcases List.mem_cons.1 ((h y).2 (by simp))with e | hy
      ·exact e.symm
      ·have g1:=h1 y hy
       have g2:=h3 x hx
       rw [z1n g1]at g2;cases g2
    subst e
    rw [ih h2 h4 fun z=>?_]
    have hz:=h z
    simp only [List.mem_cons]at hz
    constructor
    ·intro hm
     rcases hz.1 (.inr hm)with e | hm'
     ·subst e;have:=h1 z hm;rw [z0c]at this;cases this
     ·exact hm'
    ·intro hm
     rcases hz.2 (.inr hm)with e | hm'
     ·subst e;have:=h3 z hm;rw [z0c]at this;cases this
     ·exact hm'
 refine key (z2x hf ht) ht fun y=>?_
 rw [z21]
 have hat:(if y.1∈m then atS t y.1 else atS f y.1)=atS t y.1:=by
  split
  ·rfl
  ·exact zjp cf ct fun hp=>by rename_i hm;exact hm (h _ hp)
 rw [hat]
 exact⟨fun h=>(z02 h).1,fun h=>z6n ht h⟩
theorem zg3 (f:List SelL):movesP f f=[]:=by
 rw [List.eq_nil_iff_forall_not_mem]
 intro p hp
 exact z5g.1 hp rfl
end
end Go.Proofs.YtapbhoodgnmnkaaGreatDoor
