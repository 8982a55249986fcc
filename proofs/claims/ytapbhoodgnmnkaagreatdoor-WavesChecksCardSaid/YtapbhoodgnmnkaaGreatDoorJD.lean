/- Laws and contracts. -/
import Derived.Test.YtapbhoodgnmnkaaGreatDoorJC
import Derived.Deep.DeepCutAuto
set_option linter.unusedVariables false
set_option linter.unusedSimpArgs false
set_option maxRecDepth 100000
set_option maxHeartbeats 32000000
namespace Go.Proofs.YtapbhoodgnmnkaaGreatDoor
open Go.Proofs.Tryz Go
theorem z2g:∀ (l m:List UInt8),Op.bytesLess l m=false→Op.bytesLess m l=false→l=m
 | [],[],_,_=>rfl
 | [],_::_,h,_=>by simp [Op.bytesLess]at h
 | _::_,[],_,h=>by simp [Op.bytesLess]at h
 | x::l,y::m,h1,h2=>by
  simp only [Op.bytesLess,Bool.or_eq_false_iff,Bool.and_eq_false_iff,decide_eq_false_iff_not]at h1 h2
  have e:x=y:=UInt8.le_antisymm (UInt8.not_lt.1 h2.1) (UInt8.not_lt.1 h1.1)
  subst e
  have h3:Op.bytesLess l m=false:=h1.2.resolve_left (by simp)
  have h4:Op.bytesLess m l=false:=h2.2.resolve_left (by simp)
  rw [z2g l m h3 h4]
theorem z2o:∀ (l m:List UInt8),Op.bytesLess l m=true→Op.bytesLess m l=false
 | [],[],h=>by simp [Op.bytesLess]at h
 | [],_::_,_=>by simp [Op.bytesLess]
 | _::_,[],h=>by simp [Op.bytesLess]at h
 | x::l,y::m,h=>by
  simp only [Op.bytesLess,Bool.or_eq_true,Bool.and_eq_true,decide_eq_true_eq,beq_iff_eq]at h
  simp only [Op.bytesLess,Bool.or_eq_false_iff,Bool.and_eq_false_iff,decide_eq_false_iff_not]
  rcases h with h | ⟨rfl,h⟩
  ·exact⟨fun k=>UInt8.lt_asymm h k,.inl (by simpa using fun e=>UInt8.lt_irrefl _ (e ▸ h))⟩
  ·exact⟨UInt8.lt_irrefl _,.inr (z2o l m h)⟩
theorem z3x:∀ (l m n:List UInt8),Op.bytesLess l m=true→Op.bytesLess m n=true→Op.bytesLess l n=true
 | [],[],_,h,_=>by simp [Op.bytesLess]at h
 | [],_::_,[],_,h=>by simp [Op.bytesLess]at h
 | [],_::_,_::_,_,_=>by simp [Op.bytesLess]
 | _::_,[],_,h,_=>by simp [Op.bytesLess]at h
 | _::_,_::_,[],_,h=>by simp [Op.bytesLess]at h
 | x::l,y::m,z::n,h1,h2=>by
  simp only [Op.bytesLess,Bool.or_eq_true,Bool.and_eq_true,decide_eq_true_eq,beq_iff_eq]at h1 h2 ⊢
  rcases h1 with h1 | ⟨rfl,h1⟩
  ·rcases h2 with h2 | ⟨rfl,h2⟩
   ·exact .inl (UInt8.lt_trans h1 h2)
   ·exact .inl h1
  ·rcases h2 with h2 | ⟨rfl,h2⟩
   ·exact .inl h2
   ·exact .inr ⟨rfl,z3x l m n h1 h2⟩
theorem z3e {a b:ByteArray}(h:a.toList=b.toList):a=b:=by
 rw [ByteArray.toList_eq,ByteArray.toList_eq]at h
 exact ByteArray.ext (Array.toList_inj.1 h)
theorem z1o {a b c:ByteArray}(h1:ltB a b=true)(h2:ltB b c=true):ltB a c=true:=z3x _ _ _ h1 h2
theorem z1n {a b:ByteArray}(h:ltB a b=true):ltB b a=false:=z2o _ _ h
theorem z2i {a b:ByteArray}(h1:ltB a b=false)(h2:ltB b a=false):a=b:=z3e (z2g _ _ h1 h2)
def plc (v:Int×Int×Int):Int:=1000*v.2.1+v.2.2
def RelLt (a b:RelL):Prop:=ltB a.path b.path=true∨(a.path=b.path∧plc a.ver<plc b.ver)
theorem RelLt.trans {a b c:RelL}(h1:RelLt a b)(h2:RelLt b c):RelLt a c:=by
 rcases h1 with h1 | ⟨e1,h1⟩
 ·rcases h2 with h2 | ⟨e2,h2⟩
  ·exact .inl (z1o h1 h2)
  ·exact .inl (e2 ▸ h1)
 ·rcases h2 with h2 | ⟨e2,h2⟩
  ·exact .inl (e1 ▸ h2)
  ·exact .inr ⟨e1.trans e2,by omega⟩
structure RelOk (r:RelL):Prop where
 line:(lineV r.path).2.2=0
 val:validB r.ver.1 r.ver.2.1 r.ver.2.2=true
 maj:r.ver.1=(lineV r.path).2.1
 reqs:checkReqs r.reqs=0
theorem zmf {r:RelL}(h:relE r=0):RelOk r:=by
 unfold relE at h
 split at h
 ·exact absurd h (by decide)
 ·rename_i h1
  split at h
  ·exact absurd h (by decide)
  ·rename_i h2
   split at h
   ·rename_i h3;exact absurd h h3
   ·rename_i h3
    rw [Bool.not_eq_false,Bool.and_eq_true]at h2
    exact⟨Classical.not_not.1 h1,h2.1,of_decide_eq_true h2.2,Classical.not_not.1 h3⟩
theorem z7g (a:Int):partB a=true ↔ 0≤a∧a≤999:=by unfold partB;exact decide_eq_true_iff
theorem z1x (a b c:Int):validB a b c=true ↔ (0≤a∧a≤999)∧(0≤b∧b≤999)∧0≤c∧c≤999:=by
 unfold validB
 rw [Bool.and_eq_true,Bool.and_eq_true,z7g,z7g,z7g]
theorem RelOk.plc {r:RelL}(h:RelOk r):0≤plc r.ver∧plc r.ver<1000000:=by
 have:=(z1x _ _ _).1 h.val
 unfold Go.Proofs.YtapbhoodgnmnkaaGreatDoor.plc
 omega
theorem ver_eq {a b:RelL}(ha:RelOk a)(hb:RelOk b)(hp:a.path=b.path)(h:Go.Proofs.YtapbhoodgnmnkaaGreatDoor.plc a.ver=Go.Proofs.YtapbhoodgnmnkaaGreatDoor.plc b.ver):keyL a=keyL b:=by
 have h1:=(z1x _ _ _).1 ha.val
 have h2:=(z1x _ _ _).1 hb.val
 have h3:=ha.maj
 have h4:=hb.maj
 rw [hp]at h3
 unfold Go.Proofs.YtapbhoodgnmnkaaGreatDoor.plc at h
 unfold keyL
 rw [hp]
 congr 1
 refine Prod.ext (h3.trans h4.symm) (Prod.ext ?_ ?_)<;>omega
theorem zky {a b:RelL}(ha:RelOk a)(hb:RelOk b)(h:relE2 a b=0):RelLt a b:=by
 unfold relE2 at h
 split at h
 ·exact absurd h (by decide)
 ·rename_i hk
  split at h
  ·exact absurd h (by decide)
  ·rename_i hc
   by_cases h1:ltB a.path b.path=true
   ·exact .inl h1
   ·have h1:ltB a.path b.path=false:=by simpa using h1
    by_cases h2:ltB b.path a.path=true
    ·exfalso
     apply hc
     have:cmpS a.path b.path=1:=by unfold cmpS;rw [if_neg (by rw [h1];decide),if_pos h2]
     unfold cmpR
     rw [this,if_pos (by decide)]
     decide
    ·have h2:ltB b.path a.path=false:=by simpa using h2
     have hp:=z2i h1 h2
     refine .inr ⟨hp,?_⟩
     have h3:cmpS a.path b.path=0:=by unfold cmpS;rw [if_neg (by rw [h1];decide),if_neg (by rw [h2];decide)]
     unfold cmpR at hc
     rw [if_neg (by rw [h3];exact fun h=>h rfl)]at hc
     have v1:=(z1x _ _ _).1 ha.val
     have v2:=(z1x _ _ _).1 hb.val
     have hm:a.ver.1=b.ver.1:=by rw [ha.maj,hb.maj,hp]
     have hne:Go.Proofs.YtapbhoodgnmnkaaGreatDoor.plc a.ver≠Go.Proofs.YtapbhoodgnmnkaaGreatDoor.plc b.ver:=fun e=>hk (ver_eq ha hb hp e)
     unfold Go.Proofs.YtapbhoodgnmnkaaGreatDoor.plc at hne ⊢
     unfold cmpV cmpI at hc
     rw [if_neg (by rw [hm];simp)]at hc
     by_cases g1:a.ver.2.1<b.ver.2.1
     ·omega
     ·by_cases g2:b.ver.2.1<a.ver.2.1
      ·rw [if_neg g1,if_pos g2]at hc
       exact absurd (by decide:(0:Int)<1) (by simp at hc)
      ·rw [if_neg g1,if_neg g2]at hc
       simp only [ne_eq,not_true,if_false]at hc
       by_cases g3:a.ver.2.2<b.ver.2.2
       ·omega
       ·by_cases g4:b.ver.2.2<a.ver.2.2
        ·rw [if_neg g3,if_pos g4]at hc
         exact absurd (by decide:(0:Int)<1) hc
        ·omega
structure IdxOk (X:List RelL):Prop where
 len:X.length≤256
 rel:∀ i,i<X.length→RelOk (X.getD i default)
 ord:∀ i j,i<j→j<X.length→RelLt (X.getD i default) (X.getD j default)
theorem zei {X:List RelL}(h:checkX X=0):IdxOk X:=by
 unfold checkX at h
 split at h
 ·exact absurd h (by decide)
 ·rename_i hl
  have h1:=z47 h
  have hr:∀ i,i<X.length→RelOk (X.getD i default):=fun i hi=>by
   have h2:=h1 i hi
   unfold idxErr at h2
   by_cases e:relE (X.getD i default)=0
   ·exact zmf e
   ·rw [if_pos e]at h2;exact absurd h2 e
  have hs:∀ i,i+1<X.length→RelLt (X.getD i default) (X.getD (i+1) default):=fun i hi=>by
   have h2:=h1 (i+1) hi
   unfold idxErr at h2
   by_cases e:relE (X.getD (i+1) default)=0
   ·rw [if_neg (fun h=>h e),if_neg (by omega)]at h2
    exact zky (hr i (by omega)) (hr (i+1) hi) h2
   ·rw [if_pos e]at h2;exact absurd h2 e
  refine⟨by omega,hr,fun i j hij=>?_⟩
  obtain⟨d,rfl⟩:∃ d,j=i+d+1:=⟨j - i - 1,by omega⟩
  clear hij
  induction d with
  | zero=>exact fun hj=>hs i hj
  | succ d ih=>exact fun hj=>(ih (by omega)).trans (hs (i+d+1) hj)
theorem IdxOk.inj {X:List RelL}(h:IdxOk X){i j:Nat}(hi:i<X.length)(hj:j<X.length)(hk:keyL (X.getD i default)=keyL (X.getD j default)):i=j:=by
 have hp:(X.getD i default).path=(X.getD j default).path:=congrArg (·.1) hk
 have hv:(X.getD i default).ver=(X.getD j default).ver:=congrArg (·.2) hk
 have key:∀ a b,a<b→b<X.length→(X.getD a default).path=(X.getD b default).path→(X.getD a default).ver=(X.getD b default).ver→False:=fun a b hab hb h1 h2=>by
  rcases h.ord a b hab hb with h3 | ⟨_,h3⟩
  ·rw [h1,z0c]at h3;cases h3
  ·rw [h2]at h3;omega
 rcases Nat.lt_trichotomy i j with h1 | h1 | h1
 ·exact(key i j h1 hj hp hv).elim
 ·exact h1
 ·exact(key j i h1 hi hp.symm hv.symm).elim
theorem zeg {X:List RelL}(h:IdxOk X){i:Nat}(hi:i<X.length):findR X (keyL (X.getD i default))=some (X.getD i default):=by
 unfold findR
 have hm:X.getD i default∈X:=by rw [zg,ze hi];exact List.getElem_mem hi
 cases hf:X.find? fun r=>decide (keyL r=keyL (X.getD i default))with
 | none=>have:=List.find?_eq_none.1 hf _ hm;simp at this
 | some r =>
  have h1:=List.find?_some hf
  have h2:=List.mem_of_find?_eq_some hf
  obtain⟨j,hj,rfl⟩:=List.mem_iff_getElem.1 h2
  have e:X.getD j default=X[j]:=by rw [zg,ze hj];rfl
  have h3:keyL X[j]=keyL (X.getD i default):=of_decide_eq_true h1
  rw [← e]at h3
  rw [← e,h.inj hj hi h3]
theorem z1d {X:List RelL}{y:SelL}{r:RelL}(h:findR X y=some r):∃ i,i<X.length∧X.getD i default=r∧keyL r=y:=by
 unfold findR at h
 have h1:=List.find?_some h
 have h2:=List.mem_of_find?_eq_some h
 obtain⟨j,hj,rfl⟩:=List.mem_iff_getElem.1 h2
 exact⟨j,hj,by rw [zg,ze hj];rfl,of_decide_eq_true h1⟩
section
open Go.Proofs.Tryz Go Go.RowKit
def TailQ (P:Program)(lo:List Oper)(k:Nat)(Q:Exit→Act→World→Prop):Exit→Act→World→Prop
 | .normal,a,w=>wpList P lo.toArray Q (lo.drop k) a w
 | _,_,_=>False
def splitB (lo:List Oper)(k:Nat):Bool :=
 (List.range k).all (fun i=>match lo[i]? with
  | some o=>o.guard.isNone&&o.after.all (fun e=>!Region.binds .any e||decide (e.on<i))
  | none=>false) &&
 (List.range lo.length).all (fun i=>decide (i<k)||(List.range k).all fun j=>Region.waitsFor .any lo.toArray i j) &&
 Region.seqB .any lo.toArray (lo.length - k) k (Array.replicate k true++Array.replicate (lo.length - k) false)&&decide (k≤lo.length)
theorem z9c {P:Program}{md:Region.Mode}{ops:Array Oper}{Q:Exit→Act→World→Prop}(m:Nat):∀ (f:Nat)(listed:Array Bool)(a:Act)(w:World),wpAny P md ops Q f listed a w→wpAny P md ops Q (f+m) listed a w
 | 0,listed,a,w,h=>by
  rw [Nat.zero_add]
  cases m with
  | zero=>exact h
  | succ m=>exact⟨fun _=>h.2,by rw [h.1];simp⟩
 | f+1,listed,a,w,h=>by
  rw [show f+1+m=(f+m)+1 by omega]
  exact⟨h.1,fun i hi=>wpOp_mono (fun a' w' h'=>z9c m f _ a' w' h') (h.2 i hi)⟩
theorem zbv {P:Program}{o:Oper}{a:Act}{w:World}{K K':Act→World→Prop}{T Q:Exit→Act→World→Prop}(hT:∀ e a w,T e a w→e=.normal)(hK:∀ a w,K a w→K' a w)(h:o.wp P a w K T):o.wp P a w K' Q:=by
 unfold Oper.wp at *
 generalize (execOp a.eval o).run P w=r at *
 cases r with
 | ok x w' =>
  cases x<;>simp only [Oper.upon]at h ⊢
  case value v=>exact hK _ _ h
  case skip=>exact hK _ _ h
  case defer d=>exact hK _ _ h
  case enter f args =>
   refine h.mono fun e w'' he=>?_
   cases e with
   | returned v=>exact hK _ _ he
   | panicked c=>cases hT _ _ _ he
   | outgrown=>obtain⟨a,w,h⟩:=he;cases hT _ _ _ h
  case row r args =>
   intro c cs
   obtain⟨v,w'',hv,hs⟩:=h c cs
   exact⟨v,w'',hK _ _ hv,hs⟩
 | halt x w' =>
  cases x<;>simp only [Oper.upon]at h ⊢
  case panic v=>cases hT _ _ _ h
theorem z3i {k m:Nat}{listed:Array Bool}(hs:listed.size=k){i:Nat}(hi:i<k)(d:Bool):(listed++Array.replicate m false).getD i d=listed.getD i d:=by
 rw [Array.getD_eq_getD_getElem?,Array.getD_eq_getD_getElem?,Array.getElem?_append_left (by omega)]
theorem zhq {k m:Nat}{listed:Array Bool}(hs:listed.size=k){i:Nat}(hi:k≤i):(listed++Array.replicate m false).getD i false=false:=by
 rw [Array.getD_eq_getD_getElem?,Array.getElem?_append_right (by omega)]
 cases e:(Array.replicate m false)[i - listed.size]? with
 | none=>rfl
 | some b=>have:=Array.getElem?_eq_some_iff.1 e;obtain⟨h1,h2⟩:=this;simp at h2;simp [h2]
theorem ze1 {P:Program}{lo:List Oper}{k:Nat}{Q:Exit→Act→World→Prop}(hB:splitB lo k=true):∀ (f:Nat)(listed:Array Bool)(a:Act)(w:World),listed.size=k →
  wpAny P .any (lo.take k).toArray (TailQ P lo k Q) f listed a w→wpAny P .any lo.toArray Q (f+(lo.length - k)) (listed++Array.replicate (lo.length - k) false) a w:=by
 simp only [splitB,Bool.and_eq_true,decide_eq_true_eq]at hB
 obtain⟨⟨⟨h1,h2⟩,h3⟩,hk⟩:=hB
 have hto:∀ i,i<k→(lo.take k).toArray[i]? = lo.toArray[i]?:=fun i hi=>by simp [List.getElem?_take,hi]
 have hhead:∀ i,i<k→∃ o,lo.toArray[i]? = some o∧o.guard=none∧∀ e∈o.after,Region.binds .any e=true→e.on<i:=fun i hi=>by
  have:=List.all_eq_true.1 h1 i (List.mem_range.2 hi)
  cases e:lo[i]? with
  | none=>rw [e]at this;cases this
  | some o =>
   rw [e]at this
   simp only [Bool.and_eq_true,Option.isNone_iff_eq_none,Array.all_eq_true',Bool.or_eq_true,Bool.not_eq_true',decide_eq_true_eq]at this
   refine⟨o,by simpa using e,this.1,fun e' he hb=>?_⟩
   rcases this.2 e' he with h | h
   ·rw [hb]at h;cases h
   ·exact h
 have hall:∀ (listed:Array Bool),listed.size=k→Region.ready .any (lo.take k).toArray listed=[]→∀ i,i<k→listed.getD i true=true:=by
  intro listed hs hr i
  induction i using Nat.strongRecOn with
  | _ i ih =>
   intro hi
   cases hb:listed.getD i true with
   | true=>rfl
   | false =>
    obtain⟨o,ho,_,hon⟩:=hhead i hi
    have:i∈Region.ready .any (lo.take k).toArray listed:=mem_ready.2 ⟨hb,o,(hto i hi).trans ho,fun e he hbd=>by
     have hlt:=hon e he hbd
     have:=ih e.on hlt (by omega)
     have hsz:e.on<listed.size:=by omega
     simp [hsz]at this ⊢
     exact this⟩
    rw [hr]at this
    cases this
 have hdone:∀ (listed:Array Bool) (a:Act) (w:World) (f:Nat),listed.size=k→Region.ready .any (lo.take k).toArray listed=[]→wpList P lo.toArray Q (lo.drop k) a w→wpAny P .any lo.toArray Q (f+(lo.length - k)) (listed++Array.replicate (lo.length - k) false) a w:=by
  intro listed a w f hs hr hw
  have hl:listed=Array.replicate k true:=by
   apply Array.ext
   ·simp [hs]
   ·intro i hi1 hi2
    have:=hall listed hs hr i (by omega)
    simp [hi1]at this
    simp [this]
  rw [hl,Nat.add_comm]
  refine z9c f _ _ _ _ ?_
  have:=wpAny_of_seq (md:=.any) (Q':=Q) (ops:=lo.toArray) (P:=P) (lo.drop k) k (Array.replicate k true++Array.replicate (lo.length - k) false) a w (fun j=>by simp [List.getElem?_drop]) (by rw [List.length_drop];exact h3) hw
  rwa [List.length_drop]at this
 intro f
 induction f with
 | zero =>
  intro listed a w hs h
  exact hdone listed a w 0 hs h.1 h.2
 | succ f ih =>
  intro listed a w hs h
  by_cases hr:Region.ready .any (lo.take k).toArray listed=[]
  ·exact hdone listed a w (f+1) hs hr (h.1 hr)
  ·have hin:∀ i,i∈Region.ready .any lo.toArray (listed++Array.replicate (lo.length - k) false)→i<k∧i∈Region.ready .any (lo.take k).toArray listed:=by
    intro i hi
    obtain⟨hu,o,ho,hw⟩:=mem_ready.1 hi
    by_cases hik:i<k
    ·refine⟨hik,mem_ready.2 ⟨by rw [← z3i (m:=lo.length - k) hs hik];exact hu,o,(hto i hik).trans ho,fun e he hb=>?_⟩⟩
     have:=hw e he hb
     by_cases hek:e.on<k
     ·rwa [z3i hs hek]at this
     ·rw [zhq hs (by omega)]at this;cases this
    ·exfalso
     obtain⟨j,hj⟩:=List.exists_mem_of_ne_nil _ hr
     obtain⟨hju,oj,hoj,_⟩:=mem_ready.1 hj
     have hjk:j<k:=by have:=(zb hoj);simp at this;omega
     have hil:i<lo.length:=by have:=(zb ho);simpa using this
     have h4:=List.all_eq_true.1 h2 i (List.mem_range.2 hil)
     simp only [Bool.or_eq_true,decide_eq_true_eq]at h4
     rcases h4 with h4 | h4
     ·omega
     ·obtain⟨oi,hoi,e,he,hb,hon⟩:=Region.waitsFor_spec (List.all_eq_true.1 h4 j (List.mem_range.2 hjk))
      rw [ho]at hoi
      cases hoi
      have:=hw e he hb
      rw [hon,z3i hs hjk]at this
      rw [getD_both hju]at this
      cases this
   rw [show f+1+(lo.length - k)=(f+(lo.length - k))+1 by omega]
   refine⟨fun h0=>?_,fun i hi=>?_⟩
   ·exfalso
    obtain⟨j,hj⟩:=List.exists_mem_of_ne_nil _ hr
    obtain⟨hju,oj,hoj,hw⟩:=mem_ready.1 hj
    have hjk:j<k:=by have:=(zb hoj);simp at this;omega
    have:j∈Region.ready .any lo.toArray (listed++Array.replicate (lo.length - k) false):=mem_ready.2 ⟨by rw [z3i hs hjk];exact hju,oj,(hto j hjk).symm.trans hoj,fun e he hb=>by
     have:=hw e he hb
     by_cases hek:e.on<k
     ·rwa [z3i hs hek]
     ·rw [Array.getD_eq_getD_getElem?,Array.getElem?_eq_none (by omega)]at this;cases this⟩
    rw [h0]at this
    cases this
   ·obtain⟨hik,hi2⟩:=hin i hi
    obtain⟨o,ho,hg,_⟩:=hhead i hik
    have hh:=h.2 i hi2
    unfold wpOp at hh ⊢
    rw [hto i hik,ho]at hh
    rw [ho]
    simp only at hh ⊢
    have hw1:∀ y,Region.wanted o y=true:=fun y=>by simp [Region.wanted,hg]
    rw [if_pos (hw1 _)]at hh ⊢
    rcases hh with hh | ⟨_,a0,w0,hh⟩
    ·refine .inl (zbv (T:=TailQ P lo k Q) (fun e a w ht=>by cases e<;>first | rfl | exact ht.elim) (fun a' w' hk'=>?_) hh)
     have:=ih (listed.setIfInBounds i true) a' w' (by simp [hs]) hk'
     rwa [show(listed++Array.replicate (lo.length - k) false).setIfInBounds i true=listed.setIfInBounds i true++Array.replicate (lo.length - k) false from by
      rw [Array.setIfInBounds_append_left (by omega)]]
    ·exact hh.elim
theorem z6m {P:Program}{lo:List Oper}{Q:Exit→Act→World→Prop}{S:World→Prop}{a:Act}{w:World}(k:Nat)(hB:splitB lo k=true)
  (h:wpAnyH P .any (lo.take k).toArray (TailQ P lo k Q) S k (Array.replicate k false) a w):wpAny P .any lo.toArray Q lo.toArray.size (Array.replicate lo.toArray.size false) a w:=by
 have hk:k≤lo.length:=by simp only [splitB,Bool.and_eq_true,decide_eq_true_eq]at hB;exact hB.2
 have:=ze1 (Q:=Q) hB k (Array.replicate k false) a w (by simp) (wpAny_of_held _ _ _ _ h)
 rw [show k+(lo.length - k)=lo.toArray.size by simp;omega,Array.replicate_append_replicate,show k+(lo.length - k)=lo.toArray.size by simp;omega]at this
 exact this
theorem z0j {P:Program}{id:Nat}{lo:List Oper}{Q:Exit→Act→World→Prop}{a:Act}{w:World}{S:World→Prop}(k:Nat)(hm:P.follows .mixedOrders=true)(hB:splitB lo k=true)
  (h:wpAnyH P .any (lo.take k).toArray (TailQ P lo k Q) S k (Array.replicate k false) a w.drew):(Code.region id lo.toArray true).wp P Q a w:=wp_region_any hm (z6m k hB h)
theorem z4u {P:Program}{l n id:Nat}{lo:List Oper}{Q:Exit→Act→World→Prop}{a:Act}{w:World}{S:World→Prop}(k:Nat)(hm:P.follows .mixedOrders=true)(hd:calmOps lo.toArray=true)(hQ:∀ a w,¬ Q .outgrown a w)(hB:splitB lo k=true)
  (h:wpAnyH P .any (lo.take k).toArray (TailQ P lo k Q) S k (Array.replicate k false) a w.drew):(Code.region id lo.toArray true).wpIn (Fence.wide.inRound l) n P Q a w:=z5u hm hd hQ (z6m k hB h)
end
section
open Go.Proofs.Tryz Go Go.RowKit
attribute [local go_sem ↓] Go.wp_at_zero Go.wp_at_succ
theorem zhd {a b c x y z:Int}(h:cmpI a x≠0):cmpV a b c x y z=cmpI a x:=by unfold cmpV;rw [if_pos h]
theorem zhe {a b c x y z:Int}(h:cmpI a x=0)(h1:cmpI b y≠0):cmpV a b c x y z=cmpI b y:=by unfold cmpV;rw [if_neg (by simp [h]),if_pos h1]
theorem zax {a b c x y z:Int}(h:cmpI a x=0)(h1:cmpI b y=0):cmpV a b c x y z=cmpI c z:=by unfold cmpV;rw [if_neg (by simp [h]),if_neg (by simp [h1])]
theorem z00 {B:Nat}{a w:World}(h:Below B a w)(n:Nat):Below B a (w.drewN n):=h.trans ⟨rfl,rfl,rfl,zq _,fun _ _=>rfl⟩
theorem keep6 {W w':World}{g:Nat}{a b c x y z:Value}(hz:g+1<W.heap.size)(e0:W.cell? ⟨g,0,none⟩=some a)(e1:W.cell? ⟨g,1,none⟩=some b)(e2:W.cell? ⟨g,2,none⟩=some c)
  (k0:W.cell? ⟨g+1,0,none⟩=some x) (k1:W.cell? ⟨g+1,1,none⟩=some y) (k2:W.cell? ⟨g+1,2,none⟩=some z) (h:Below W.heap.size W w') :
  w'.cell? ⟨g,0,none⟩=some a∧w'.cell? ⟨g,1,none⟩=some b∧w'.cell? ⟨g,2,none⟩=some c∧w'.cell? ⟨g+1,0,none⟩=some x∧w'.cell? ⟨g+1,1,none⟩=some y∧w'.cell? ⟨g+1,2,none⟩=some z:=by
 have h1:g<W.heap.size:=by omega
 exact⟨(h.cell h1).trans e0,(h.cell h1).trans e1,(h.cell h1).trans e2,(h.cell hz).trans k0,(h.cell hz).trans k1,(h.cell hz).trans k2⟩
theorem zcr (a b c x y z:Int)(w:World):Calls prog 171 #[.agg #[.int .i64 a,.int .i64 b,.int .i64 c],.agg #[.int .i64 x,.int .i64 y,.int .i64 z]] w fun e w'=>e=.returned (.int .i64 (cmpV a b c x y z))∧Below w.heap.size w w':=by
 go_enter func171,ntmps171
 go_upto_region 1 with fail
 obtain⟨W,hW⟩:∃ W,(w.alloc (.cells #[.int .i64 a,.int .i64 b,.int .i64 c] 51)).alloc (.cells #[.int .i64 x,.int .i64 y,.int .i64 z] 51)=W:=⟨_,rfl⟩
 rw [hW]
 have hB0:Hid (Below w.heap.size w W):=zh (by rw [← hW];exact((Below.refl _ _).alloc (zq _) _).alloc (by simp) _)
 have e0:W.cell? ⟨w.heap.size,0,none⟩=some (.int .i64 a):=by rw [← hW];simp [go_sem]
 have e1:W.cell? ⟨w.heap.size,1,none⟩=some (.int .i64 b):=by rw [← hW];simp [go_sem]
 have e2:W.cell? ⟨w.heap.size,2,none⟩=some (.int .i64 c):=by rw [← hW];simp [go_sem]
 have k0:W.cell? ⟨w.heap.size+1,0,none⟩=some (.int .i64 x):=by rw [← hW];simp [go_sem]
 have k1:W.cell? ⟨w.heap.size+1,1,none⟩=some (.int .i64 y):=by rw [← hW];simp [go_sem]
 have k2:W.cell? ⟨w.heap.size+1,2,none⟩=some (.int .i64 z):=by rw [← hW];simp [go_sem]
 clear hW
 have hz:w.heap.size+1<W.heap.size:=by have:=World.block_lt_of_cell? _ _ k0;simpa using this
 go_cut [5,6] (fun s5 s6 wx=>∃ g5 g6:Nat,s5=.pointer (some ⟨g5,0,none⟩)∧s6=.pointer (some ⟨g6,0,none⟩)∧wx.cell? ⟨g5,0,none⟩=some (.int .i64 a)∧wx.cell? ⟨g5,1,none⟩=some (.int .i64 b)∧wx.cell? ⟨g5,2,none⟩=some (.int .i64 c)∧wx.cell? ⟨g6,0,none⟩=some (.int .i64 x)∧wx.cell? ⟨g6,1,none⟩=some (.int .i64 y)∧wx.cell? ⟨g6,2,none⟩=some (.int .i64 z)∧Hid (Below w.heap.size w wx))
 case first =>
  go_region_held3 (fun w'=>w'.cell? ⟨w.heap.size,0,none⟩=some (.int .i64 a)∧w'.cell? ⟨w.heap.size,1,none⟩=some (.int .i64 b)∧w'.cell? ⟨w.heap.size,2,none⟩=some (.int .i64 c)∧w'.cell? ⟨w.heap.size+1,0,none⟩=some (.int .i64 x)∧w'.cell? ⟨w.heap.size+1,1,none⟩=some (.int .i64 y)∧w'.cell? ⟨w.heap.size+1,2,none⟩=some (.int .i64 z)) ((exact keep6 hz e0 e1 e2 k0 k1 k2 (by repeat (first | exact Below.refl _ _ | refine Below.drew ?_ | refine Below.alloc ?_ (by simp<;>omega) _ | refine Below.setCell ?_ (by simp<;>omega) _))))
   (first | (go_at_call 173;refine(zc1 _ _ _ _).mono ?_;rintro e w' ⟨rfl,rfl⟩))
  all_goals
   go_wp2_with fail
   go_meet
   exact⟨_,_,rfl,rfl,by simp [go_sem],by simp [go_sem],by simp [go_sem],by simp [go_sem],by simp [go_sem],by simp [go_sem],zh (hB0.out.trans (Below.mono (by repeat (first | exact Below.refl _ _ | refine Below.drew ?_ | refine Below.alloc ?_ (by simp<;>omega) _ | refine Below.setCell ?_ (by simp<;>omega) _)) hB0.out.size))⟩
 case rest =>
  obtain⟨g5,g6,rfl,rfl,c0,c1,c2,d0,d1,d2,HB⟩:=hcut
  go_wp2_with fail
  go_loopw [13] (fun i wr=>((i=.int .i64 0)∨(i=.int .i64 1∧Hid (cmpI a x=0))∨(i=.int .i64 2∧Hid (cmpI a x=0∧cmpI b y=0))∨(i=.int .i64 3∧Hid (cmpV a b c x y z=0)))∧Hid (∃ n,wr=wc.drewN n)) (fun i _=>3 - (intOf i).toNat)
  case atStart=>exact⟨.inl rfl,zh ⟨0,rfl⟩⟩
  case round =>
   obtain⟨hrel,HW⟩:=hrel
   obtain⟨n,hn⟩:=HW.out
   replace c0:wr.cell? ⟨g5,0,none⟩=some (.int .i64 a):=by rw [hn];exact c0
   replace c1:wr.cell? ⟨g5,1,none⟩=some (.int .i64 b):=by rw [hn];exact c1
   replace c2:wr.cell? ⟨g5,2,none⟩=some (.int .i64 c):=by rw [hn];exact c2
   replace d0:wr.cell? ⟨g6,0,none⟩=some (.int .i64 x):=by rw [hn];exact d0
   replace d1:wr.cell? ⟨g6,1,none⟩=some (.int .i64 y):=by rw [hn];exact d1
   replace d2:wr.cell? ⟨g6,2,none⟩=some (.int .i64 z):=by rw [hn];exact d2
   have HBW:Hid (Below w.heap.size w wr):=zh (by rw [hn];exact z00 HB.out _)
   have HN:=zh hn
   clear hn HW
   rcases hrel with rfl | ⟨rfl,H1⟩ | ⟨rfl,H2⟩ | ⟨rfl,H3⟩
   ·by_cases h0:cmpI a x=0
    ·have H0:=zh h0
     go_wp2_with fail
     go_quiet ((go_at_call 186;exact Calls.quiet_of_same ((z59 _ _ _).mono fun e w' h=>⟨h.1,h.2.symm⟩)))
     go_wp2_with fail
     go_roundw
     case rel=>exact⟨.inr (.inl ⟨rfl,H0⟩),zh ⟨n+nq,by rw [HN.out,World.drewN_drewN]⟩⟩
     case measure=>simp [intOf]
    ·have hb:(cmpI a x != 0)=true:=by simpa using h0
     have H0:=zh (zhd (b:=b) (c:=c) (y:=y) (z:=z) h0)
     clear h0
     go_wp2_with fail
     go_quiet ((go_at_call 186;exact Calls.quiet_of_same ((z59 _ _ _).mono fun e w' h=>⟨h.1,h.2.symm⟩)))
     go_wp2_with fail
     go_ret
     exact⟨by rw [H0.out];rfl,z00 HBW.out _⟩
   ·by_cases h0:cmpI b y=0
    ·have H0:=zh h0
     go_wp2_with fail
     go_quiet ((go_at_call 186;exact Calls.quiet_of_same ((z59 _ _ _).mono fun e w' h=>⟨h.1,h.2.symm⟩)))
     go_wp2_with fail
     go_roundw
     case rel=>exact⟨.inr (.inr (.inl ⟨rfl,zh ⟨H1.out,H0.out⟩⟩)),zh ⟨n+nq,by rw [HN.out,World.drewN_drewN]⟩⟩
     case measure=>simp [intOf]
    ·have hb:(cmpI b y != 0)=true:=by simpa using h0
     have H0:=zh (zhe (c:=c) (z:=z) H1.out h0)
     clear h0
     go_wp2_with fail
     go_quiet ((go_at_call 186;exact Calls.quiet_of_same ((z59 _ _ _).mono fun e w' h=>⟨h.1,h.2.symm⟩)))
     go_wp2_with fail
     go_ret
     exact⟨by rw [H0.out];rfl,z00 HBW.out _⟩
   ·by_cases h0:cmpI c z=0
    ·have H0:=zh h0
     go_wp2_with fail
     go_quiet ((go_at_call 186;exact Calls.quiet_of_same ((z59 _ _ _).mono fun e w' h=>⟨h.1,h.2.symm⟩)))
     go_wp2_with fail
     go_roundw
     case rel=>exact⟨.inr (.inr (.inr ⟨rfl,zh (by rw [zax H2.out.1 H2.out.2];exact H0.out)⟩)),zh ⟨n+nq,by rw [HN.out,World.drewN_drewN]⟩⟩
     case measure=>simp [intOf]
    ·have hb:(cmpI c z != 0)=true:=by simpa using h0
     have H0:=zh (zax (c:=c) (z:=z) H2.out.1 H2.out.2)
     clear h0
     go_wp2_with fail
     go_quiet ((go_at_call 186;exact Calls.quiet_of_same ((z59 _ _ _).mono fun e w' h=>⟨h.1,h.2.symm⟩)))
     go_wp2_with fail
     go_ret
     exact⟨by rw [H0.out];rfl,z00 HBW.out _⟩
   ·go_wp2_with fail
    go_ret
    exact⟨by rw [H3.out];rfl,HBW.out⟩
end
section
open Go.Proofs.Tryz Go Go.RowKit
theorem za8 (s:ByteArray)(w:World):Calls prog 110 #[.string s] w fun e w'=>e=.returned (.bool false)∧w=w':=by
 go_enter func110,ntmps110
 go_wp2_with fail
 go_ret
 simp
theorem z46 (p q:ByteArray):(Op.bytesLess p.toList q.toList||p.toList == q.toList)=!ltB q p:=by
 unfold ltB
 cases h:Op.bytesLess p.toList q.toList with
 | true=>rw [z2o _ _ h];rfl
 | false =>
  cases h2:Op.bytesLess q.toList p.toList with
  | true =>
   by_cases e:p.toList=q.toList
   ·rw [e]at h h2;rw [h]at h2;cases h2
   ·simpa using e
  | false=>rw [z2g _ _ h h2];simp
theorem zjv (a b:ByteArray)(w:World):Calls prog 170 #[.string a,.string b] w fun e w'=>e=.returned (.int .i64 (cmpS a b))∧w=w':=by
 unfold cmpS
 cases h1:ltB a b with
 | true =>
  unfold ltB at h1
  go_enter func170,ntmps170
  go_wp2_with (go_at_call 110;refine(za8 _ _).mono ?_;rintro e w' ⟨rfl,rfl⟩)
  go_ret
  simp
 | false =>
  cases h2:ltB b a with
  | true =>
   have h3:(a.toList == b.toList)=false:=by
    by_cases e:a.toList=b.toList
    ·unfold ltB at h1 h2;rw [e]at h1 h2;rw [h1]at h2;cases h2
    ·simpa using e
   unfold ltB at h1 h2
   go_enter func170,ntmps170
   go_wp2_with (go_at_call 110;refine(za8 _ _).mono ?_;rintro e w' ⟨rfl,rfl⟩)
   go_ret
   simp
  | false =>
   have h3:(a.toList == b.toList)=true:=by
    unfold ltB at h1 h2
    rw [z2g _ _ h1 h2]
    simp
   unfold ltB at h1 h2
   go_enter func170,ntmps170
   go_wp2_with (go_at_call 110;refine(za8 _ _).mono ?_;rintro e w' ⟨rfl,rfl⟩)
   go_ret
   simp
theorem belQ (w:World)(o:Obj):Below w.heap.size w (w.alloc o):=(Below.refl _ _).alloc (zq _) o
def BeforeAt (w:World)(bv:Value)(bf:Option ByteArray):Prop :=
 (bf=none∧bv=.pointer none)∨∃ q b o,bf=some q∧bv=.pointer (some ⟨b,o,none⟩)∧b<w.heap.size∧w.cell? ⟨b,o,none⟩=some (.string q)
theorem keepQ {W w':World}{g:Nat}{x y:Value}(hg:g<W.heap.size)(h:W.cell? ⟨g,0,none⟩=some x∧W.cell? ⟨g,1,none⟩=some y)(hb:Below W.heap.size W w'):w'.cell? ⟨g,0,none⟩=some x∧w'.cell? ⟨g,1,none⟩=some y :=
 ⟨(hb.cell (p:=⟨g,0,none⟩) hg).trans h.1,(hb.cell (p:=⟨g,1,none⟩) hg).trans h.2⟩
theorem zas (p:ByteArray)(s:List (Int×Int))(sv bv:Value)(bf:Option ByteArray)(w:World)(hm:MaxOk w)(hp:p.size≤1000000)(hs:s.length≤1000000000)(hc:(canon s).length≤1000000000)(hS:SpansOf w.heap.size sv s w)(hb:BeforeAt w bv bf) :
  Calls prog 185 #[.agg #[.string p,sv],bv] w fun e w'=>e=.returned (.int .i64 (reqE (p,s) bf))∧Below w.heap.size w w':=by
 have HS:=zh hS
 obtain⟨ao,c,rfl,_⟩:=hS
 have HM:=zh (hm.alloc (.cells #[.string p,.slice ao s.length c] 89))
 have HB0:Hid (Below w.heap.size w (w.alloc (.cells #[.string p,.slice ao s.length c] 89))):=zh (belQ _ _)
 have HG0:Hid ((w.alloc (.cells #[.string p,.slice ao s.length c] 89)).heap[w.heap.size]? = some (.cells #[.string p,.slice ao s.length c] 89 (0,0))):=zh (zn w _)
 have HL:=zh (ze4 p (w.alloc (.cells #[.string p,.slice ao s.length c] 89)) hp HM.out)
 have HBF:=zh hb
 clear hm hb
 obtain⟨E,hE⟩:∃ E,reqE (p,s) bf=E:=⟨_,rfl⟩
 have HE:=zh hE
 rw [hE]
 clear hE
 obtain⟨le,hle⟩:∃ le,(lineV p).2.2=le:=⟨_,rfl⟩
 rw [hle]at HL
 have HLE:=zh hle
 clear hle
 go_enter func185,ntmps185
 go_wp2_with fail
 refine HL.out.mono ?_
 rintro e w1 ⟨rfl,hb1⟩
 have hs1:=hb1.size
 simp only [World.size_alloc]at hs1
 have HG1:=zh ((hb1.block w.heap.size (by simp)).trans HG0.out)
 have HB1:=zh (HB0.out.trans (hb1.mono (by simp)))
 have hg0:w1.cell? ⟨w.heap.size,0,none⟩=some (.string p):=zw _ _ 0 _ _ _ HG1.out
 have hg1:w1.cell? ⟨w.heap.size,1,none⟩=some (.slice ao s.length c):=zw _ _ 1 _ _ _ HG1.out
 clear hb1 HL
 by_cases h1:le=0
 case neg =>
  have h1b:(le != 0)=true:=by simpa using h1
  have HX:=zh (show E=4 by rw [← HE.out];unfold reqE;rw [if_pos (by rw [HLE.out];exact h1)])
  go_wp2_with fail
  go_ret
  exact⟨by rw [HX.out];rfl,HB1.out⟩
 case pos =>
  subst h1
  have HC1:=zh (fun(wx:World) (h:Below w1.heap.size w1 wx)=>z9d (.slice ao s.length c) s wx hs (((HS.out.below HB1.out (zq _)).mono (show w.heap.size≤w1.heap.size by omega)).below h (zq _) |>.mono h.size))
  have HEQ:=zh (fun(wx:World) (v':Value) (h:Below w1.heap.size w1 wx) (h2:SpansOf wx.heap.size v' (canon s) wx)=>(zcs (.slice ao s.length c) v' wx.heap.size s (canon s) wx hs hc (((HS.out.below HB1.out (zq _)).mono (show w.heap.size≤w1.heap.size by omega)).below h (zq _) |>.mono h.size) h2).mono fun e w' (hq:e=.returned (.bool (decide (s=canon s)))∧∃ q,w'=wx.drewN q)=>(show e=.returned (.bool (decide (s=canon s)))∧Below wx.heap.size wx w' from⟨hq.1,by obtain⟨_,q,rfl⟩:=hq;exact z00 (Below.refl _ _) q⟩))
  by_cases h2:s=[]
  ·subst h2
   have HX:=zh (show E=1 by rw [← HE.out];unfold reqE;rw [if_neg (by rw [HLE.out];simp),if_pos (.inl rfl)])
   go_wp2_with fail
   go_quiet (fail)
   go_wp2_with fail
   go_ret
   exact⟨by rw [HX.out];rfl,z00 HB1.out _⟩
  ·have hl0:¬ s.length=0:=fun e=>h2 (List.length_eq_zero_iff.1 e)
   have hl1:¬ ((s.length:Int)=0):=by omega
   have hl2:decide ((s.length:Int)=0)=false:=decide_eq_false hl1
   have hl4:((s.length:Int) == 0)=false:=by simpa using h2
   have HBC:Hid (Below w1.heap.size w1 w1):=zh (Below.refl _ _)
   have hz:w.heap.size<w1.heap.size:=by omega
   have HSQ:=zh (And.intro hg0 hg1)
   go_upto_region 4 with fail
   obtain⟨bq,hbq⟩:∃ bq,decide (s=canon s)=bq:=⟨_,rfl⟩
   rw [hbq]at HEQ
   have HBQ:=zh hbq
   clear hbq
   rcases HBF.out with ⟨rfl,rfl⟩ | ⟨q,b,o,rfl,rfl,hb0,hbc0⟩
   ·skip
    refine wp_region_noPanic ?_
    refine wp_region_held_drew (S:=HeldC ⟨w.heap.size,0,none⟩ ⟨w.heap.size,1,none⟩ (.string p) (.slice ao s.length c)) (by kernel_rfl) ⟨hg0,hg1⟩ (fun hS0=>?_)
    refine zt 0 _ rfl ?_;simp only [zl1];refine zt 1 _ rfl ?_;simp only [zl1];refine zt 2 _ rfl ?_;simp only [zl1];refine zt 3 _ rfl ?_;simp only [zl1];refine zt 4 _ rfl ?_;simp only [zl1];refine zt 5 _ rfl ?_;simp only [zl1];refine zt 6 _ rfl ?_;simp only [zl1];refine zt 7 _ rfl ?_;simp only [zl1];refine zt 8 _ rfl ?_;simp only [zl1]
    refine zr 9 rfl fun K hK=>?_
    go_simp
    refine(HC1.out _ HBC.out.drew).mono ?_
    rintro e wq ⟨v',rfl,hv',hbc⟩
    have HV:=zh hv'
    replace HBC:=zh (HBC.out.drew.trans (hbc.mono HBC.out.size))
    refine hK.out _ _ (keepQ hz HSQ.out HBC.out) (fun _=>?_)
    clear hK K hS0 hbc hv'
    (try simp only [zl1])
    refine zr 10 rfl fun K hK=>?_
    go_simp
    refine(HEQ.out _ _ HBC.out HV.out).mono ?_
    rintro e w2 ⟨rfl,hbc⟩
    replace HBC:=zj HBC hbc
    refine hK.out _ _ (keepQ hz HSQ.out HBC.out) (fun hS2=>?_)
    clear hK K hbc
    (try simp only [zl1])
    refine zt 11 _ rfl ?_;simp only [zl1];refine zt 12 _ rfl ?_;simp only [zl1];refine zt 13 _ rfl ?_;simp only [zl1]
    cases bq with
    | false =>
     have HX:=zh (show E=1 by rw [← HE.out];unfold reqE;rw [if_neg (by rw [HLE.out];simp),if_pos (.inr (of_decide_eq_false HBQ.out))])
     refine zu 14 rfl ?_;simp only [zl1];refine zu 15 rfl ?_;simp only [zl1];refine zu 16 rfl ?_;simp only [zl1];refine zu 17 rfl ?_;simp only [zl1];refine zu 18 rfl ?_;simp only [zl1];refine zu 19 rfl ?_;simp only [zl1];refine zu 20 rfl ?_;simp only [zl1];refine zu 21 rfl ?_;simp only [zl1];refine zu 22 rfl ?_;simp only [zl1];refine zu 23 rfl ?_;simp only [zl1];refine zu 24 rfl ?_;simp only [zl1]
     refine zt 25 _ rfl ?_;simp only [zl1]
     refine wpAnyH_done (by kernel_rfl) ?_ _
     refine NoPanic.normal ?_
     go_wp2_with fail
     go_ret
     exact⟨by rw [HX.out];rfl,HB1.out.trans (HBC.out.mono (by omega))⟩
    | true =>
     have HX:=zh (show E=0 by rw [← HE.out];unfold reqE;rw [if_neg (by rw [HLE.out];simp),if_neg (fun h=>h.elim h2 (fun h=>h (of_decide_eq_true HBQ.out)))])
     refine zt 14 _ rfl ?_;simp only [zl1];refine zt 15 _ rfl ?_;simp only [zl1];refine zt 16 _ rfl ?_;simp only [zl1];refine zu 17 rfl ?_;simp only [zl1];refine zu 18 rfl ?_;simp only [zl1];refine zu 19 rfl ?_;simp only [zl1];refine zu 20 rfl ?_;simp only [zl1];refine zu 21 rfl ?_;simp only [zl1];refine zu 22 rfl ?_;simp only [zl1];refine zu 23 rfl ?_;simp only [zl1];refine zt 24 _ rfl ?_;simp only [zl1]
     refine zt 25 _ rfl ?_;simp only [zl1]
     refine wpAnyH_done (by kernel_rfl) ?_ _
     refine NoPanic.normal ?_
     go_wp2_with fail
     go_ret
     exact⟨by rw [HX.out];rfl,HB1.out.trans (HBC.out.mono (by omega))⟩
   ·have hzb:b<w1.heap.size:=by omega
    have hg2:w1.cell? ⟨b,o,none⟩=some (.string q):=(HB1.out.cell (p:=⟨b,o,none⟩) hb0).trans hbc0
    refine wp_region_noPanic ?_
    refine wp_region_held_drew (S:=HeldR ⟨w.heap.size,0,none⟩ ⟨w.heap.size,1,none⟩ ⟨b,o,none⟩ (.string p) (.slice ao s.length c) (.string q)) (by kernel_rfl) ⟨hg0,hg1,hg2⟩ (fun hS0=>?_)
    refine zt 0 _ rfl ?_;simp only [zl1];refine zt 1 _ rfl ?_;simp only [zl1];refine zt 2 _ rfl ?_;simp only [zl1];refine zt 3 _ rfl ?_;simp only [zl1];refine zt 4 _ rfl ?_;simp only [zl1];refine zt 5 _ rfl ?_;simp only [zl1];refine zt 6 _ rfl ?_;simp only [zl1];refine zt 7 _ rfl ?_;simp only [zl1];refine zt 8 _ rfl ?_;simp only [zl1]
    refine zr 9 rfl fun K hK=>?_
    go_simp
    refine(HC1.out _ HBC.out.drew).mono ?_
    rintro e wq ⟨v',rfl,hv',hbc⟩
    have HV:=zh hv'
    replace HBC:=zh (HBC.out.drew.trans (hbc.mono HBC.out.size))
    refine hK.out _ _ ⟨(keepQ hz HSQ.out HBC.out).1,(keepQ hz HSQ.out HBC.out).2,(HBC.out.cell (p:=⟨b,o,none⟩) hzb).trans hg2⟩ (fun _=>?_)
    clear hK K hS0 hbc hv'
    (try simp only [zl1])
    refine zr 10 rfl fun K hK=>?_
    go_simp
    refine(HEQ.out _ _ HBC.out HV.out).mono ?_
    rintro e w2 ⟨rfl,hbc⟩
    replace HBC:=zj HBC hbc
    refine hK.out _ _ ⟨(keepQ hz HSQ.out HBC.out).1,(keepQ hz HSQ.out HBC.out).2,(HBC.out.cell (p:=⟨b,o,none⟩) hzb).trans hg2⟩ (fun hS2=>?_)
    clear hK K hbc
    (try simp only [zl1])
    refine zt 11 _ rfl ?_;simp only [zl1];refine zt 12 _ rfl ?_;simp only [zl1];refine zt 13 _ rfl ?_;simp only [zl1]
    cases bq with
    | false =>
     have HX:=zh (show E=1 by rw [← HE.out];unfold reqE;rw [if_neg (by rw [HLE.out];simp),if_pos (.inr (of_decide_eq_false HBQ.out))])
     refine zu 14 rfl ?_;simp only [zl1];refine zu 15 rfl ?_;simp only [zl1];refine zu 16 rfl ?_;simp only [zl1];refine zu 17 rfl ?_;simp only [zl1];refine zu 18 rfl ?_;simp only [zl1];refine zu 19 rfl ?_;simp only [zl1];refine zu 20 rfl ?_;simp only [zl1];refine zu 21 rfl ?_;simp only [zl1];refine zu 22 rfl ?_;simp only [zl1];refine zu 23 rfl ?_;simp only [zl1];refine zu 24 rfl ?_;simp only [zl1]
     refine zt 25 _ rfl ?_;simp only [zl1]
     refine wpAnyH_done (by kernel_rfl) ?_ _
     refine NoPanic.normal ?_
     go_wp2_with fail
     go_ret
     exact⟨by rw [HX.out];rfl,HB1.out.trans (HBC.out.mono (by omega))⟩
    | true =>
     have HX:=zh (show E=if ltB q p=true then 0 else 1 by rw [← HE.out];unfold reqE;rw [if_neg (by rw [HLE.out];simp),if_neg (fun h=>h.elim h2 (fun h=>h (of_decide_eq_true HBQ.out)))])
     have HLQ0:=zh (z46 p q)
     cases hlt:ltB q p with
     | true =>
      rw [hlt]at HX HLQ0
      have HLQ:=HLQ0
      clear HLQ0 hlt
      refine zt 14 _ rfl ?_;simp only [zl1];refine zt 15 _ rfl ?_;simp only [zl1];refine zt 16 _ rfl ?_;simp only [zl1];refine zt 17 _ rfl ?_;simp only [zl1];refine zt 18 _ rfl ?_;simp only [zl1];refine zt 19 _ rfl ?_;simp only [zl1];refine zt 20 _ rfl ?_;simp only [zl1];refine zt 21 _ rfl ?_;simp only [zl1];refine zt 22 _ rfl ?_;simp only [zl1];refine zt 23 _ rfl ?_;simp only [zl1]
      refine zt 24 _ rfl ?_;simp only [zl1];refine zt 25 _ rfl ?_;simp only [zl1]
      simp only [HLQ.out]
      refine wpAnyH_done (by kernel_rfl) ?_ _
      refine NoPanic.normal ?_
      go_wp2_with fail
      go_ret
      exact⟨by rw [HX.out];rfl,HB1.out.trans (HBC.out.mono (by omega))⟩
     | false =>
      rw [hlt]at HX HLQ0
      have HLQ:=HLQ0
      clear HLQ0 hlt
      refine zt 14 _ rfl ?_;simp only [zl1];refine zt 15 _ rfl ?_;simp only [zl1];refine zt 16 _ rfl ?_;simp only [zl1];refine zt 17 _ rfl ?_;simp only [zl1];refine zt 18 _ rfl ?_;simp only [zl1];refine zt 19 _ rfl ?_;simp only [zl1];refine zt 20 _ rfl ?_;simp only [zl1];refine zt 21 _ rfl ?_;simp only [zl1];refine zt 22 _ rfl ?_;simp only [zl1];refine zt 23 _ rfl ?_;simp only [zl1]
      refine zt 24 _ rfl ?_;simp only [zl1];refine zt 25 _ rfl ?_;simp only [zl1]
      simp only [HLQ.out]
      refine wpAnyH_done (by kernel_rfl) ?_ _
      refine NoPanic.normal ?_
      go_wp2_with fail
      go_ret
      exact⟨by rw [HX.out];rfl,HB1.out.trans (HBC.out.mono (by omega))⟩
end
section
open Go.Proofs.Tryz Go Go.RowKit
theorem z5o (l:List ReqL)(k:Nat):beforeQ l (k+1)=some (l.getD k default).1:=by simp [beforeQ]
theorem z9f (v:Value)(l:List ReqL)(w:World)(hm:MaxOk w)(hl:l.length≤1000000000)(hq:∀ q∈l,q.1.size≤1000000∧q.2.length≤1000000000)(hR:ReqsOf w.heap.size v l w) :
  Calls prog 168 #[v] w fun e w'=>e=.returned (.int .i64 (checkReqs l))∧Below w.heap.size w w':=by
 obtain⟨ao,cap,rfl,hR⟩:=hR
 have HR:=zh hR
 have HQ:=zh hq
 have HM:=zh hm
 clear hR hq hm
 obtain⟨E,hE⟩:∃ E,checkReqs l=E:=⟨_,rfl⟩
 have HE:=zh hE
 rw [hE]
 clear hE
 by_cases h16:16<l.length
 ·have h16a:(16:Int)<(l.length:Int):=by omega
  have h16b:decide ((16:Int)<(l.length:Int))=true:=decide_eq_true h16a
  have HX:=zh (show E=7 by rw [← HE.out];unfold checkReqs;rw [if_pos h16])
  go_enter func168,ntmps168
  go_wp2_with fail
  go_ret
  exact⟨by rw [HX.out];rfl,Below.refl _ _⟩
 ·have h16a:¬ ((16:Int)<(l.length:Int)):=by omega
  have h16b:decide ((16:Int)<(l.length:Int))=false:=decide_eq_false h16a
  have HF:=zh (show E=firstE l.length fun k=>reqE (l.getD k default) (beforeQ l k) by rw [← HE.out];unfold checkReqs;rw [if_neg h16])
  go_enter func168,ntmps168
  go_wp2_with fail
  go_loopw [3,12] (fun bp p wr=>∃ k:Nat,k≤l.length∧p=.int .i64 k∧Hid (BeforeAt wr bp (beforeQ l k))∧Hid (∀ j,j<k→reqE (l.getD j default) (beforeQ l j)=0)∧Hid (Below w.heap.size w wr)) (fun _ p _=>l.length - (intOf p).toNat)
  case atStart=>exact⟨0,Nat.zero_le _,rfl,zh (.inl ⟨rfl,rfl⟩),zh (fun j hj=>absurd hj (Nat.not_lt_zero _)),zh (Below.refl _ _)⟩
  case round =>
   obtain⟨k,hk,rfl,HBA,HZ,HB⟩:=hrel
   by_cases hlt:k<l.length
   case neg =>
    have hk2:k=l.length:=by omega
    subst hk2
    have HX:=zh (show E=0 by rw [HF.out];exact z2y fun j hj=>HZ.out j hj)
    go_wp2_with fail
    go_ret
    exact⟨by rw [HX.out];rfl,HB.out⟩
   case pos =>
    obtain⟨b,off,r,rfl,hbl,hc0,hc1,hsp⟩:=HR.out k l[k] (by simp [hlt])
    have hd0:=(HB.out.cell (p:=⟨b,off+k*2,none⟩) hbl).trans hc0
    have hd1:=(HB.out.cell (p:=⟨b,off+k*2+1,none⟩) hbl).trans hc1
    have hbw:b<wr.heap.size:=Nat.lt_of_lt_of_le hbl HB.out.size
    have hgd:l.getD k default=l[k]:=by rw [zg,ze hlt];rfl
    obtain⟨q1,q2⟩:=HQ.out l[k] (List.getElem_mem hlt)
    have HB2:Hid (Below w.heap.size w (wr.alloc (.cells #[.string l[k].1,r] 89))):=zh (HB.out.trans ((belQ wr _).mono HB.out.size))
    have hBA:BeforeAt (wr.alloc (.cells #[.string l[k].1,r] 89)) u3 (beforeQ l k):=by
     rcases HBA.out with h | ⟨q,b2,o2,h1,h2,h3,h4⟩
     ·exact .inl h
     ·exact .inr ⟨q,b2,o2,h1,h2,by simp;omega,((belQ wr _).cell (p:=⟨b2,o2,none⟩) h3).trans h4⟩
    have HC:=zh (zas l[k].1 l[k].2 r u3 (beforeQ l k) (wr.alloc (.cells #[.string l[k].1,r] 89)) (HM.out.below HB2.out HM.out.pos) q1 q2 (Nat.le_trans (zap _) q2) ((hsp.below HB2.out (zq _)).mono HB2.out.size) hBA)
    have HS:=zh hsp
    obtain⟨ra,rc,rfl,_⟩:=hsp
    clear hBA q1 q2
    have e0:(l[k].1,l[k].2)=l[k]:=rfl
    rw [e0]at HC
    have HD0:=zh hd0
    go_wp2_with fail
    refine HC.out.mono ?_
    rintro e w3 ⟨rfl,hb3⟩
    have HB3:=zj HB2 hb3
    have HD3:Hid (w3.cell? ⟨b,off+k*2,none⟩=some (.string l[k].1)):=zh ((HB3.out.cell (p:=⟨b,off+k*2,none⟩) hbl).trans hc0)
    have hs3:=HB3.out.size
    clear hb3
    by_cases hz:reqE l[k] (beforeQ l k)=0
    case neg =>
     have HX:=zh (show E=reqE l[k] (beforeQ l k) by rw [HF.out,z18 hlt (fun j hj=>HZ.out j hj) (by rw [hgd];exact hz),hgd])
     generalize reqE l[k] (beforeQ l k)=er at *
     have hz2:(er != 0)=true:=by simpa using hz
     go_wp2_with fail
     go_ret
     exact⟨by rw [HX.out];rfl,HB3.out⟩
    case pos =>
     have HZ2:=zh (show ∀ j,j<k+1→reqE (l.getD j default) (beforeQ l j)=0 from fun j hj=>by
      by_cases e:j=k
      ·rw [e,hgd];exact hz
      ·exact HZ.out j (by omega))
     rw [hz]
     go_wp2_with fail
     go_roundw
     case rel=>exact⟨k+1,by omega,by simp,zh (.inr ⟨l[k].1,b,off+k*2,by rw [z5o,hgd],rfl,by omega,HD3.out⟩),HZ2,HB3⟩
     case measure=>simp [intOf];omega
end
section
open Go.Proofs.Tryz Go Go.RowKit
def relC (x:RelL)(r:Value):Array Value:=#[.string x.path,intC x.ver.1,intC x.ver.2.1,intC x.ver.2.2,r,.string x.ar,.string x.ifc,.string x.cert,.bool x.yk]
theorem zd9 (x:RelL)(r:Value)(w:World):Calls prog 138 #[.agg (relC x r)] w fun e w'=>e=.returned (.agg #[.string x.path,intC x.ver.1,intC x.ver.2.1,intC x.ver.2.2])∧Below w.heap.size w w':=by
 unfold relC
 go_enter func138,ntmps138
 go_wp2_with fail
 refine bodyPost_ret (results_cell_row rfl _ _ (w.heap.size+1) _ _ _ _ rfl (by have:=zn (w.alloc (.cells #[.string x.path,intC x.ver.1,intC x.ver.2.1,intC x.ver.2.2,r,.string x.ar,.string x.ifc,.string x.cert,.bool x.yk] 82)) (.cells #[.string x.path,intC x.ver.1,intC x.ver.2.1,intC x.ver.2.2] 53);rw [World.size_alloc]at this;exact this) underlying53 rfl (by kernel_rfl)) rfl ?_
 exact⟨rfl,(by repeat (first | exact Below.refl _ _ | refine Below.drew ?_ | refine Below.alloc ?_ (by simp<;>omega) _ | refine Below.setCell ?_ (by simp<;>omega) _))⟩
end
section
open Go.Proofs.Tryz Go Go.RowKit
theorem zmb (g:Nat)(x y:Int)(w:World)(h0:w.cell? ⟨g,0,none⟩=some (.int .i64 x))(h1:w.cell? ⟨g,1,none⟩=some (.int .i64 y)) :
  Calls prog 169 #[.slice (some ⟨g,0,none⟩) 2 2] w fun e w'=>e=.returned (.int .i64 (if x≠0 then x else y))∧w=w':=by
 obtain⟨R,hR⟩:∃ R,(if x≠0 then x else y)=R:=⟨_,rfl⟩
 rw [hR]
 have HR:=zh hR
 clear hR
 obtain⟨P1,hP1⟩:∃ P1:Prop,P1=(x=0):=⟨_,rfl⟩
 obtain⟨P2,hP2⟩:∃ P2:Prop,P2=(y=0):=⟨_,rfl⟩
 have HP:=zh (And.intro hP1 hP2)
 clear hP1 hP2
 go_enter func169,ntmps169
 go_wp2_with fail
 go_loopw [8] (fun i wr=>((i=.int .i64 0)∨(i=.int .i64 1∧Hid P1)∨(i=.int .i64 2∧Hid (P1∧P2)))∧wr=w) (fun i _=>3 - (intOf i).toNat)
 case atStart=>exact⟨.inl rfl,rfl⟩
 case round =>
  obtain⟨hrel,rfl⟩:=hrel
  rcases hrel with rfl | ⟨rfl,H1⟩ | ⟨rfl,H2⟩
  ·by_cases hx:x=0
   ·have HX:Hid P1:=zh (by rw [HP.out.1];exact hx)
    subst hx
    go_wp2_with fail
    go_roundw
    case rel=>exact⟨.inr (.inl ⟨rfl,HX⟩),trivial⟩
    case measure=>simp [intOf]
   ·have hb:(x != 0)=true:=by simpa using hx
    go_wp2_with fail
    go_ret
    exact⟨by rw [← HR.out,if_pos hx];rfl,rfl⟩
  ·by_cases hy:y=0
   ·have HX:Hid (P1∧P2):=zh ⟨H1.out,by rw [HP.out.2];exact hy⟩
    subst hy
    go_wp2_with fail
    go_roundw
    case rel=>exact⟨.inr (.inr ⟨rfl,HX⟩),trivial⟩
    case measure=>simp [intOf]
   ·have hb:(y != 0)=true:=by simpa using hy
    have HE:=zh (show R=y by rw [← HR.out,if_neg (fun h=>h (HP.out.1 ▸ H1.out))])
    go_wp2_with fail
    go_ret
    exact⟨by rw [HE.out];rfl,rfl⟩
  ·have HE:=zh (show R=0 by rw [← HR.out,if_neg (fun h=>h (HP.out.1 ▸ H2.out.1))];exact HP.out.2 ▸ H2.out.2)
   go_wp2_with fail
   go_ret
   exact⟨by rw [HE.out];rfl,rfl⟩
end
end Go.Proofs.YtapbhoodgnmnkaaGreatDoor
