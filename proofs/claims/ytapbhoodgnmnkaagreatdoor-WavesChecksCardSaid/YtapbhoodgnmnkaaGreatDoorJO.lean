/- Laws and contracts. -/
import Derived.Test.YtapbhoodgnmnkaaGreatDoorJN
set_option linter.unusedVariables false
set_option linter.unusedSimpArgs false
set_option maxRecDepth 100000
set_option maxHeartbeats 32000000
namespace Go.Proofs.YtapbhoodgnmnkaaGreatDoor
open Go.Proofs.Tryz
structure OInv (S:List (List Nat))(k:Nat)(st:List Bool×List Nat):Prop where
 len:st.1.length=S.length
 cnt:st.2.length=k
 nod:st.2.Nodup
 mem:∀ j,j<S.length→(bD st.1 j=true ↔ j∈st.2)
 lt:∀ x∈st.2,x<S.length
 top:∀ i x,st.2[i]? = some x→∀ j∈S.getD x [],j∈st.2.take i
 least:∀ i x,st.2[i]? = some x→∀ y,y<x→y ∉ st.2.take i→∃ j∈S.getD y [],j ∉ st.2.take i
theorem z67 {S:List (List Nat)}{done:List Bool}{k:Nat}:lrdy S done k=true ↔ bD done k=false∧∀ j∈S.getD k [],bD done j=true:=by
 unfold lrdy
 rw [Bool.and_eq_true,Bool.not_eq_true',Bool.not_eq_true',List.any_eq_false]
 refine and_congr_right fun _=>forall_congr' fun j=>imp_congr_right fun _=>?_
 cases bD done j<;>simp
theorem zln {S:List (List Nat)}(hS:∀ a,∀ j∈S.getD a [],j<S.length){r:Nat→Nat}(hr:∀ a,∀ j∈S.getD a [],r j<r a)(done:List Bool):∀ (m a:Nat),r a≤m→a<S.length→bD done a=false→∃ b,b<S.length∧lrdy S done b=true
 | 0,a,hm,ha,hd=>by
  refine⟨a,ha,z67.2 ⟨hd,fun j hj=>?_⟩⟩
  have:=hr a j hj
  omega
 | m+1,a,hm,ha,hd=>by
  by_cases h:∀ j∈S.getD a [],bD done j=true
  ·exact⟨a,ha,z67.2 ⟨hd,h⟩⟩
  ·obtain⟨j,hj⟩:=Classical.not_forall.1 h
   obtain⟨hj,hn⟩:=Classical.not_imp.1 hj
   exact zln hS hr done m j (by have:=hr a j hj;omega) (hS a j hj) (by simpa using hn)
theorem zfz {S:List (List Nat)}{done:List Bool}(h:∃ b,b<S.length∧lrdy S done b=true):lpick S done<S.length∧lrdy S done (lpick S done)=true∧∀ y,y<lpick S done→lrdy S done y=false:=by
 unfold lpick
 cases e:(List.range S.length).find? (lrdy S done)with
 | none =>
  obtain⟨b,hb,hr⟩:=h
  exact absurd hr (List.find?_eq_none.1 e b (List.mem_range.2 hb))
 | some x =>
  refine⟨List.mem_range.1 (List.mem_of_find?_eq_some e),List.find?_some e,fun y hy=>?_⟩
  have hy:y<x:=hy
  obtain⟨_,us,bs,hab,hno⟩:=List.find?_eq_some_iff_append.1 e
  have hlen:x=us.length:=by
   have h1:(List.range S.length)[us.length]? = some x:=by rw [hab,List.getElem?_append_right (zq _)];simp
   have h2:=List.getElem?_eq_some_iff.1 h1
   obtain⟨_,h2⟩:=h2
   rw [List.getElem_range]at h2
   exact h2.symm
  have hya:y∈us:=by
   have h1:us[y]? = some y:=by
    have h3:(List.range S.length)[y]? = some y:=by
     have:=List.mem_range.1 (List.mem_of_find?_eq_some e)
     rw [List.getElem?_range (by omega)]
    rw [hab,List.getElem?_append_left (by omega)]at h3
    exact h3
   exact List.mem_of_getElem? h1
  have:=hno y hya
  simpa using this
theorem OInv.step {S:List (List Nat)}(hS:∀ a,∀ j∈S.getD a [],j<S.length){r:Nat→Nat}(hr:∀ a,∀ j∈S.getD a [],r j<r a){k:Nat}{st:List Bool×List Nat}(h:OInv S k st)(hk:k<S.length):OInv S (k+1) (lstep S st):=by
 have hex:∃ a,a<S.length∧bD st.1 a=false:=Classical.byContradiction fun hn=>by
  have hall:∀ a,a<S.length→a∈st.2:=fun a ha=>(h.mem a ha).1 (by
   cases e:bD st.1 a with
   | true=>rfl
   | false=>exact absurd ⟨a,ha,e⟩ hn)
  have hp:st.2.Perm (List.range S.length):=(List.perm_ext_iff_of_nodup h.nod List.nodup_range).2 fun x=>by
   rw [List.mem_range]
   exact⟨h.lt x,hall x⟩
  have:=hp.length_eq
  rw [h.cnt,List.length_range]at this
  omega
 obtain⟨a,ha,hd⟩:=hex
 obtain⟨h1,h2,h3⟩:=zfz (zln hS hr st.1 (r a) a (zq _) ha hd)
 unfold lstep
 generalize lpick S st.1=x at *
 obtain⟨hx,hxs⟩:=z67.1 h2
 have hxn:x ∉ st.2:=fun hm=>by have:=(h.mem x h1).2 hm;rw [hx]at this;cases this
 refine⟨by show(List.set _ _ _).length=_;rw [List.length_set];exact h.len,by show(st.2++[x]).length=_;rw [List.length_append,h.cnt];rfl,?_,fun j hj=>?_,fun y hy=>?_,fun i y hi j hj=>?_,fun i y hi z hz hzn=>?_⟩
 ·exact List.nodup_append.2 ⟨h.nod,by simp,fun a ha b hb e=>by rw [List.mem_singleton]at hb;subst hb;subst e;exact hxn ha⟩
 ·show bD (st.1.set x true) j=true ↔ j∈st.2++[x]
  rw [List.mem_append,List.mem_singleton]
  by_cases e:j=x
  ·subst e
   unfold bD
   rw [zg,List.getElem?_set_self (by rw [h.len];exact hj)]
   simp
  ·unfold bD
   rw [zg,List.getElem?_set_ne (Ne.symm e),← zg]
   exact(h.mem j hj).trans ⟨.inl,fun hh=>hh.resolve_right e⟩
 ·rcases List.mem_append.1 hy with hy | hy
  ·exact h.lt y hy
  ·rw [List.mem_singleton]at hy;subst hy;exact h1
 ·show j∈(st.2++[x]).take i
  have hi:(st.2++[x])[i]? = some y:=hi
  by_cases hik:i<st.2.length
  ·rw [List.getElem?_append_left hik]at hi
   rw [List.take_append_of_le_length (by omega)]
   exact h.top i y hi j hj
  ·have hil:=(zc hi)
   rw [List.length_append,List.length_singleton]at hil
   have ei:i=st.2.length:=by omega
   subst ei
   rw [List.getElem?_append_right (zq _)]at hi
   simp at hi
   subst hi
   rw [List.take_left]
   exact(h.mem j (hS _ j hj)).1 (hxs j hj)
 ·have hi:(st.2++[x])[i]? = some y:=hi
  show ∃ j∈S.getD z [],j ∉ (st.2++[x]).take i
  have hzn:z ∉ (st.2++[x]).take i:=hzn
  by_cases hik:i<st.2.length
  ·rw [List.getElem?_append_left hik]at hi
   rw [List.take_append_of_le_length (by omega)]at hzn ⊢
   exact h.least i y hi z hz hzn
  ·have hil:=(zc hi)
   rw [List.length_append,List.length_singleton]at hil
   have ei:i=st.2.length:=by omega
   subst ei
   rw [List.getElem?_append_right (zq _)]at hi
   simp at hi
   subst hi
   rw [List.take_left]at hzn ⊢
   have hzr:=h3 z hz
   have hzd:bD st.1 z=false:=by
    cases e:bD st.1 z with
    | false=>rfl
    | true=>exact absurd ((h.mem z (by omega)).1 e) hzn
   refine Classical.byContradiction fun hno=>?_
   have:lrdy S st.1 z=true:=z67.2 ⟨hzd,fun j hj=>(h.mem j (hS z j hj)).2 (Classical.byContradiction fun hn=>hno ⟨j,hj,hn⟩)⟩
   rw [hzr]at this
   cases this
theorem zbk {S:List (List Nat)}(hS:∀ a,∀ j∈S.getD a [],j<S.length){r:Nat→Nat}(hr:∀ a,∀ j∈S.getD a [],r j<r a):∀ k,k≤S.length→OInv S k (lrun S k)
 | 0,_=>by
  refine⟨by simp [lrun],rfl,by simp [lrun],fun j hj=>?_,fun x hx=>by simp [lrun]at hx,fun i x hi=>by simp [lrun]at hi,fun i x hi=>by simp [lrun]at hi⟩
  show(List.replicate S.length false).getD j false=true ↔ j∈[]
  rw [zg,List.getElem?_replicate,if_pos hj]
  simp
 | k+1,h=>(zbk hS hr k (by omega)).step hS hr (by omega)
theorem zeu {S:List (List Nat)}(hS:∀ a,∀ j∈S.getD a [],j<S.length){r:Nat→Nat}(hr:∀ a,∀ j∈S.getD a [],r j<r a):OInv S S.length (lrun S S.length):=zbk hS hr _ (zq _)
theorem zi3 {S:List (List Nat)}(hS:∀ a,∀ j∈S.getD a [],j<S.length){r:Nat→Nat}(hr:∀ a,∀ j∈S.getD a [],r j<r a)(x:Nat):x∈listF S ↔ x<S.length:=by
 have h:=zeu hS hr
 refine⟨h.lt x,fun hx=>Classical.byContradiction fun hn=>?_⟩
 have hp:((lrun S S.length).2++[x]).Nodup:=List.nodup_append.2 ⟨h.nod,by simp,fun a ha b hb e=>by rw [List.mem_singleton]at hb;subst hb;subst e;exact hn ha⟩
 have hq:((lrun S S.length).2++[x]).Perm ((List.range S.length).filter fun k=>decide (k∈(lrun S S.length).2++[x])):=(List.perm_ext_iff_of_nodup hp (List.nodup_range.filter _)).2 fun k=>by
  rw [List.mem_filter,List.mem_range,decide_eq_true_eq]
  refine⟨fun hk=>⟨?_,hk⟩,fun hk=>hk.2⟩
  rcases List.mem_append.1 hk with hk | hk
  ·exact h.lt k hk
  ·rw [List.mem_singleton]at hk;omega
 have h1:=hq.length_eq
 have h2:=List.length_filter_le (fun k=>decide (k∈(lrun S S.length).2++[x])) (List.range S.length)
 rw [List.length_append,h.cnt,List.length_singleton]at h1
 rw [List.length_range]at h2
 omega
theorem z77 {c:Nat}:∀ (l:List Nat)(lv:List Int),c<lv.length→(∀ d∈l,d≠c) →
  (∀ a,a≠c→gD (l.foldl (lvstep c) lv) a=gD lv a)∧gD lv c≤gD (l.foldl (lvstep c) lv) c∧(∀ d∈l,gD lv d+1≤gD (l.foldl (lvstep c) lv) c)∧(gD (l.foldl (lvstep c) lv) c=gD lv c∨∃ d∈l,gD (l.foldl (lvstep c) lv) c=gD lv d+1)∧(l.foldl (lvstep c) lv).length=lv.length
 | [],lv,_,_=>⟨fun _ _=>rfl,Int.le_refl _,fun d hd=>by simp at hd,.inl rfl,rfl⟩
 | d::l,lv,hc,hl=>by
  have hdc:=hl d (by simp)
  have e1:gD (lvstep c lv d) c=max (gD lv c) (gD lv d+1):=by unfold lvstep;rw [zeh _ _ _ _ hc,if_pos rfl]
  have e2:∀ a,a≠c→gD (lvstep c lv d) a=gD lv a:=fun a ha=>by unfold lvstep;rw [zeh _ _ _ _ hc,if_neg ha]
  obtain⟨h1,h2,h3,h4,h5⟩:=z77 l (lvstep c lv d) (by unfold lvstep;rw [List.length_set];exact hc) (fun j hj=>hl j (by simp [hj]))
  rw [List.foldl_cons]
  refine⟨fun a ha=>(h1 a ha).trans (e2 a ha),by omega,fun j hj=>?_,?_,by rw [h5];unfold lvstep;rw [List.length_set]⟩
  ·rcases List.mem_cons.1 hj with rfl | hj
   ·omega
   ·have:=h3 j hj
    rw [e2 j (hl j (by simp [hj]))]at this
    exact this
  ·rcases h4 with h4 | ⟨j,hj,h4⟩
   ·rw [e1]at h4
    by_cases hm:gD lv d+1≤gD lv c
    ·exact .inl (by omega)
    ·exact .inr ⟨d,by simp,by omega⟩
   ·rw [e2 j (hl j (by simp [hj]))]at h4
    exact .inr ⟨j,by simp [hj],h4⟩
theorem zi5 (nd out:List (List Nat))(m c i n:Nat):n∈(lvput nd out m c).getD i [] ↔ n∈out.getD i []∨(i=m∧n∈nd.getD c []):=by
 unfold lvput
 rw [z0m,z20,z20,z76]
 by_cases e:i=m
 ·subst e
  rw [if_pos ⟨rfl,by omega⟩,List.mem_append]
  exact or_congr_right ⟨fun h=>⟨rfl,h⟩,fun h=>h.2⟩
 ·rw [if_neg (fun h=>e h.1)]
  exact⟨.inl,fun h=>h.resolve_right fun h=>e h.1⟩
structure VInv (K nd:List (List Nat))(P:List Nat)(st:List Int×List (List Nat)):Prop where
 len:st.1.length=nd.length
 nn:∀ c,c<nd.length→0≤gD st.1 c
 zr:∀ c,c<nd.length→c ∉ P→gD st.1 c=0
 ge:∀ c∈P,∀ d∈K.getD c [],gD st.1 d+1≤gD st.1 c
 at_:∀ c∈P,gD st.1 c=0∨∃ d∈K.getD c [],gD st.1 c=gD st.1 d+1
 mem:∀ m n,n∈st.2.getD m [] ↔ ∃ c∈P,n∈nd.getD c []∧gD st.1 c=(m:Int)
 nod:∀ m,(st.2.getD m []).Nodup
 lt:∀ c∈P,gD st.1 c<(st.2.length:Int)
 ln:st.2.length=0∨∃ c∈P,gD st.1 c+1=(st.2.length:Int)
theorem VInv.step {K nd:List (List Nat)}{P:List Nat}{st:List Int×List (List Nat)}(h:VInv K nd P st){c:Nat}(hc:c<nd.length)(hcP:c ∉ P)(hK:∀ d∈K.getD c [],d∈P)(hKc:∀ a∈P,∀ d∈K.getD a [],d∈P)(hP:∀ a∈P,a<nd.length)
  (hnd:(nd.getD c []).Nodup) (hdis:∀ a,a≠c→∀ n∈nd.getD a [],n ∉ nd.getD c []):VInv K nd (P++[c]) (lvadd K nd st c):=by
 have hne:∀ d∈P,d≠c:=fun d hd e=>hcP (e ▸ hd)
 obtain⟨h1,h2,h3,h4,h5⟩:=z77 (K.getD c []) st.1 (by rw [h.len];exact hc) (fun d hd=>hne d (hK d hd))
 unfold lvadd
 generalize (K.getD c []).foldl (lvstep c) st.1=lv at *
 have hcn:0≤gD lv c:=by have:=h.nn c hc;omega
 have hz:=h.zr c hc hcP
 obtain⟨m0,hm0⟩:∃ m0:Nat,gD lv c=(m0:Int):=⟨(gD lv c).toNat,by omega⟩
 rw [hm0,Int.toNat_natCast]
 have hln:(lvput nd st.2 m0 c).length=max st.2.length (m0+1):=by unfold lvput;rw [List.length_set,z76]
 have hmm:∀ a,a∈P++[c] ↔ a∈P∨a=c:=fun a=>by simp
 refine⟨h5.trans h.len,fun a ha=>?_,fun a ha hn=>?_,fun a ha d hd=>?_,fun a ha=>?_,fun m n=>?_,fun m=>?_,fun a ha=>?_,?_⟩
 ·show 0≤gD lv a
  by_cases e:a=c
  ·subst e;exact hcn
  ·rw [h1 a e];exact h.nn a ha
 ·show gD lv a=0
  have:a≠c:=fun e=>hn ((hmm a).2 (.inr e))
  rw [h1 a this]
  exact h.zr a ha (fun hm=>hn ((hmm a).2 (.inl hm)))
 ·show gD lv d+1≤gD lv a
  rcases(hmm a).1 ha with ha | rfl
  ·rw [h1 a (hne a ha),h1 d (hne d (hKc a ha d hd))]
   exact h.ge a ha d hd
  ·rw [h1 d (hne d (hK d hd))]
   exact h3 d hd
 ·show gD lv a=0∨∃ d∈K.getD a [],gD lv a=gD lv d+1
  rcases(hmm a).1 ha with ha | rfl
  ·rw [h1 a (hne a ha)]
   rcases h.at_ a ha with h0 | ⟨d,hd,h0⟩
   ·exact .inl h0
   ·exact .inr ⟨d,hd,by rw [h1 d (hne d (hKc a ha d hd))];exact h0⟩
  ·rcases h4 with h4 | ⟨d,hd,h4⟩
   ·exact .inl (h4.trans hz)
   ·exact .inr ⟨d,hd,by rw [h1 d (hne d (hK d hd))];exact h4⟩
 ·show n∈(lvput nd st.2 m0 c).getD m [] ↔ ∃ a∈P++[c],n∈nd.getD a []∧gD lv a=(m:Int)
  rw [zi5,h.mem]
  constructor
  ·rintro(⟨a,ha,hn,hm⟩ | ⟨rfl,hn⟩)
   ·exact⟨a,(hmm a).2 (.inl ha),hn,by rw [h1 a (hne a ha)];exact hm⟩
   ·exact⟨c,(hmm c).2 (.inr rfl),hn,hm0⟩
  ·rintro⟨a,ha,hn,hm⟩
   rcases(hmm a).1 ha with ha | rfl
   ·rw [h1 a (hne a ha)]at hm
    exact .inl ⟨a,ha,hn,hm⟩
   ·exact .inr ⟨by omega,hn⟩
 ·show((lvput nd st.2 m0 c).getD m []).Nodup
  unfold lvput
  rw [z0m,z20,z20]
  split
  ·refine List.nodup_append.2 ⟨h.nod m0,hnd,fun a ha b hb e=>?_⟩
   subst e
   obtain⟨c',hc',hn,_⟩:=(h.mem m0 a).1 ha
   exact hdis c' (hne c' hc') a hn hb
  ·exact h.nod m
 ·show gD lv a<((lvput nd st.2 m0 c).length:Int)
  rw [hln]
  rcases(hmm a).1 ha with ha | rfl
  ·rw [h1 a (hne a ha)]
   have:=h.lt a ha
   omega
  ·omega
 ·show(lvput nd st.2 m0 c).length=0∨∃ a∈P++[c],gD lv a+1=((lvput nd st.2 m0 c).length:Int)
  rw [hln]
  by_cases e:m0+1≤st.2.length
  ·rcases h.ln with h0 | ⟨a,ha,h0⟩
   ·omega
   ·exact .inr ⟨a,(hmm a).2 (.inl ha),by rw [h1 a (hne a ha)];omega⟩
  ·exact .inr ⟨c,(hmm c).2 (.inr rfl),by omega⟩
theorem z3t (N:Nat)(es:List (Int×Int)):(∀ a,∀ j∈(condG N es).getD a [],j<(condG N es).length)∧(∀ a,∀ j∈(condG N es).getD a [],rankG N es j<rankG N es a):=by
 refine⟨fun a j hj=>?_,fun a j hj=>zkx hj⟩
 rw [(z0s N es).1]
 obtain⟨n,k,hn,hk,_,hd,_⟩:=z3f.1 hj
 rw [← hd]
 exact z3b (by have:=z2c (N:=N) (es:=es) n k hk;rwa [z08]at this)
theorem zev (N:Nat)(es:List (Int×Int)):OInv (condG N es) (condG N es).length (lrun (condG N es) (condG N es).length):=zeu (z3t N es).1 (z3t N es).2
theorem z19 {N:Nat}{es:List (Int×Int)}(x:Nat):x∈listF (condG N es) ↔ x<(nodesG N es).length:=by
 rw [zi3 (z3t N es).1 (z3t N es).2,(z0s N es).1]
theorem z8m (N:Nat)(es:List (Int×Int)):∀ k,k≤(listF (condG N es)).length→VInv (condG N es) (nodesG N es) ((listF (condG N es)).take k) (lvrun (condG N es) (nodesG N es) ((listF (condG N es)).take k))
 | 0,_=>by
  have hg:∀ a,a<(nodesG N es).length→gD (List.replicate (nodesG N es).length (0:Int)) a=0:=fun a ha=>by
   unfold gD
   rw [zg,List.getElem?_replicate,if_pos ha]
   rfl
  refine⟨by simp [lvrun],fun c hc=>?_,fun c hc _=>?_,fun c hc=>by simp at hc,fun c hc=>by simp at hc,fun m n=>by simp [lvrun],fun m=>by simp [lvrun],fun c hc=>by simp at hc,.inl (by simp [lvrun])⟩
  ·show 0≤gD (List.replicate (nodesG N es).length (0:Int)) c
   rw [hg c hc];exact Int.le_refl _
  ·exact hg c hc
 | k+1,hk=>by
  have ih:=z8m N es k (by omega)
  have ho:=zev N es
  have hk':k<(listF (condG N es)).length:=by omega
  have e:lvrun (condG N es) (nodesG N es) ((listF (condG N es)).take (k+1))=lvadd (condG N es) (nodesG N es) (lvrun (condG N es) (nodesG N es) ((listF (condG N es)).take k)) (listF (condG N es))[k]:=by
   unfold lvrun
   rw [zs hk',List.foldl_append]
   rfl
  have hget:(listF (condG N es))[k]? = some (listF (condG N es))[k]:=by simp [hk']
  have hn:=ho.nod
  have hsplit:=List.take_append_drop (k+1) (listF (condG N es))
  rw [e,zs hk']
  refine ih.step ((z19 _).1 (List.getElem_mem _)) (fun hm=>?_) (fun d hd=>ho.top k _ hget d hd) (fun a ha d hd=>?_) (fun a ha=>(z19 a).1 (List.mem_of_mem_take ha)) ((z8q N es _).imp fun h=>Nat.ne_of_lt h) (fun a ha n hn1 hn2=>?_)
  ·have h2:((listF (condG N es)).take (k+1)).Nodup:=List.Nodup.sublist (List.take_sublist _ _) hn
   rw [zs hk']at h2
   exact(List.nodup_append.1 h2).2.2 _ hm _ (by simp) rfl
  ·obtain⟨i,hi⟩:=List.mem_iff_getElem?.1 ha
   have hik:i<k:=by
    have:=(zc hi)
    rw [List.length_take]at this
    omega
   rw [List.getElem?_take,if_pos hik]at hi
   have:=ho.top i a hi d hd
   have h9:d∈((listF (condG N es)).take k).take i:=by rw [List.take_take,Nat.min_eq_left (by omega)];exact this
   exact List.mem_of_mem_take h9
  ·exact ha ((z1t.1 hn1).2.symm.trans (z1t.1 hn2).2)
structure LevP (N:Nat)(es:List (Int×Int))(lv:Nat→Nat):Prop where
 down:∀ c d,d∈(condG N es).getD c []→lv d<lv c
 attain:∀ c,c<(nodesG N es).length→lv c=0∨∃ d∈(condG N es).getD c [],lv c=lv d+1
 mem:∀ m n,n∈(levelsG N es).getD m [] ↔ n<N∧lv (clG N es n)=m
 srt:∀ m,((levelsG N es).getD m []).Pairwise (· < ·)
 lt:∀ c,c<(nodesG N es).length→lv c<(levelsG N es).length
 ln:(levelsG N es).length=0∨∃ c,c<(nodesG N es).length∧lv c+1=(levelsG N es).length
theorem ziz (r:List Nat)(n:Nat):n∈sortN r ↔ n∈r:=by
 have hp:=List.mergeSort_perm (r.map fun n:Nat=>(n:Int)) fun x y=>decide (x≤y)
 unfold sortN
 rw [List.mem_map]
 constructor
 ·rintro⟨x,hx,rfl⟩
  obtain⟨y,hy,rfl⟩:=List.mem_map.1 (hp.subset hx)
  exact hy
 ·intro h
  exact⟨(n:Int),hp.symm.subset (List.mem_map.2 ⟨n,h,rfl⟩),by simp⟩
theorem zj0 {r:List Nat}(h:r.Nodup):(sortN r).Pairwise (· < ·):=by
 have hp:=List.mergeSort_perm (r.map fun n:Nat=>(n:Int)) fun x y=>decide (x≤y)
 have hs:=List.pairwise_mergeSort (le:=fun x y:Int=>decide (x≤y)) (fun a b c hab hbc=>by simp at *;omega) (fun a b=>by simp;omega) (r.map fun n:Nat=>(n:Int))
 have hn:((r.map fun n:Nat=>(n:Int)).mergeSort fun x y=>decide (x≤y)).Nodup:=hp.symm.nodup (List.Pairwise.map _ (fun a b hab e=>hab (Int.ofNat.inj e)) h)
 unfold sortN
 refine List.pairwise_map.2 ?_
 have hb:∀ x∈(r.map fun n:Nat=>(n:Int)).mergeSort fun x y=>decide (x≤y),0≤x:=fun x hx=>by
  obtain⟨y,_,rfl⟩:=List.mem_map.1 (hp.subset hx)
  omega
 refine(hs.and hn).imp_of_mem fun {x y} hx hy h=>?_
 have h1:=of_decide_eq_true h.1
 have h2:=h.2
 have:=hb x hx
 have:=hb y hy
 omega
theorem zbj (N:Nat)(es:List (Int×Int)):∃ lv,LevP N es lv:=by
 have h:=z8m N es (listF (condG N es)).length (zq _)
 rw [List.take_length]at h
 have hK:∀ c d,d∈(condG N es).getD c []→c<(nodesG N es).length∧d<(nodesG N es).length:=fun c d hd=>by
  refine⟨?_,by have:=(z3t N es).1 c d hd;rwa [(z0s N es).1]at this⟩
  obtain⟨n,k,hn,hk,hp,_,_⟩:=z3f.1 hd
  rw [← hp]
  exact z3b hn
 have hrow:∀ m,(levelsG N es).getD m []=sortN ((lvrun (condG N es) (nodesG N es) (listF (condG N es))).2.getD m []):=fun m=>by
  unfold levelsG
  rw [zg,zg,List.getElem?_map]
  cases (lvrun (condG N es) (nodesG N es) (listF (condG N es))).2[m]? with
  | none=>simp [sortN]
  | some r=>rfl
 have hlen:(levelsG N es).length=(lvrun (condG N es) (nodesG N es) (listF (condG N es))).2.length:=by unfold levelsG;rw [List.length_map]
 have hin:∀ c,c<(nodesG N es).length→((gD (lvrun (condG N es) (nodesG N es) (listF (condG N es))).1 c).toNat:Int)=gD (lvrun (condG N es) (nodesG N es) (listF (condG N es))).1 c:=fun c hc=>by have:=h.nn c hc;omega
 refine⟨fun c=>(gD (lvrun (condG N es) (nodesG N es) (listF (condG N es))).1 c).toNat,fun c d hd=>?_,fun c hc=>?_,fun m n=>?_,fun m=>?_,fun c hc=>?_,?_⟩
 ·obtain⟨h1,h2⟩:=hK c d hd
  have h3:=h.ge c ((z19 c).2 h1) d hd
  have:=hin c h1
  have:=hin d h2
  omega
 ·rcases h.at_ c ((z19 c).2 hc)with h0 | ⟨d,hd,h0⟩
  ·exact .inl (by show Int.toNat _=0;omega)
  ·obtain⟨h1,h2⟩:=hK c d hd
   refine .inr ⟨d,hd,?_⟩
   have:=hin c h1
   have:=hin d h2
   show Int.toNat _=Int.toNat _+1
   omega
 ·rw [hrow,ziz,h.mem]
  constructor
  ·rintro⟨c,hc,hn,hm⟩
   obtain⟨h1,h2⟩:=z1t.1 hn
   refine⟨h1,?_⟩
   show Int.toNat _=m
   rw [h2]
   omega
  ·rintro⟨hn,hm⟩
   refine⟨clG N es n,(z19 _).2 (z3b hn),z1t.2 ⟨hn,rfl⟩,?_⟩
   have:=hin _ (z3b (es:=es) hn)
   have hm:Int.toNat _=m:=hm
   omega
 ·rw [hrow]
  exact zj0 (h.nod m)
 ·have:=h.lt c ((z19 c).2 hc)
  have:=hin c hc
  show Int.toNat _<_
  omega
 ·rw [hlen]
  rcases h.ln with h0 | ⟨c,hc,h0⟩
  ·exact .inl h0
  ·have hc:=(z19 c).1 hc
   have:=hin c hc
   exact .inr ⟨c,hc,by show Int.toNat _+1=_;omega⟩
theorem zme {N:Nat}{es:List (Int×Int)}{lv:Nat→Nat}(h:LevP N es lv){a b:Nat}(hr:Rch (sucs N es) a b):a<N→b<N∧(clG N es a=clG N es b∨lv (clG N es b)<lv (clG N es a)):=by
 induction hr with
 | refl a=>exact fun ha=>⟨ha,.inl rfl⟩
 | @step a j b hj _ ih =>
  intro ha
  have hjN:j<N:=by have:=z2c (N:=N) (es:=es) a j hj;rwa [z08]at this
  obtain⟨hb,hlev⟩:=ih hjN
  refine⟨hb,?_⟩
  by_cases e:clG N es a=clG N es j
  ·rw [e];exact hlev
  ·have h1:=h.down (clG N es a) (clG N es j) (z3f.2 ⟨a,j,ha,hj,rfl,rfl,e⟩)
   rcases hlev with e2 | h2
   ·rw [← e2];exact .inr h1
   ·exact .inr (by omega)
structure PosP (N:Nat)(es:List (Int×Int))(pos:Nat→Nat):Prop where
 mem:∀ (i:Nat) (row:List Nat),(compsG N es)[i]? = some row→∀ n,n∈row ↔ n<N∧pos (clG N es n)=i
 srt:∀ (i:Nat) (row:List Nat),(compsG N es)[i]? = some row→row.Pairwise (· < ·)∧0<row.length
 lt:∀ n,n<N→pos (clG N es n)<(compsG N es).length
 inj:∀ a b,a<N→b<N→(pos (clG N es a)=pos (clG N es b) ↔ clG N es a=clG N es b)
 down:∀ a b,a<N→b∈(sucs N es).getD a []→pos (clG N es b)≤pos (clG N es a)
theorem z6t (N:Nat)(es:List (Int×Int)):(compsG N es).length=(nodesG N es).length:=by
 unfold compsG
 rw [List.length_map,z1m,(z0s N es).1]
theorem pos_ok (N:Nat)(es:List (Int×Int)):∃ pos,PosP N es pos:=by
 have ho:=zev N es
 have hnod:(listF (condG N es)).Nodup:=ho.nod
 have hlen:(listF (condG N es)).length=(nodesG N es).length:=by rw [z1m,(z0s N es).1]
 have hex:∀ c,c<(nodesG N es).length→∃ i,(listF (condG N es))[i]? = some c:=fun c hc=>List.mem_iff_getElem?.1 ((z19 c).2 hc)
 have huniq:∀ i j c,(listF (condG N es))[i]? = some c→(listF (condG N es))[j]? = some c→i=j:=fun i j c hi hj=>by
  obtain⟨h1,e1⟩:=List.getElem?_eq_some_iff.1 hi
  obtain⟨h2,e2⟩:=List.getElem?_eq_some_iff.1 hj
  rcases Nat.lt_trichotomy i j with h | h | h
  ·exact absurd (e1.trans e2.symm) (List.pairwise_iff_getElem.1 hnod i j h1 h2 h)
  ·exact h
  ·exact absurd (e2.trans e1.symm) (List.pairwise_iff_getElem.1 hnod j i h2 h1 h)
 have hch:∃ pos:Nat→Nat,∀ c,c<(nodesG N es).length→(listF (condG N es))[pos c]? = some c :=
  ⟨fun c=>@dite _ (c<(nodesG N es).length) (Classical.propDecidable _) (fun h=>(hex c h).choose) (fun _=>0),fun c hc=>by
   show(listF (condG N es))[@dite _ (c<(nodesG N es).length) (Classical.propDecidable _) (fun h=>(hex c h).choose) (fun _=>0)]? = _
   rw [dif_pos hc]
   exact(hex c hc).choose_spec⟩
 obtain⟨pos,hpos⟩:=hch
 have hcomp:∀ i row,(compsG N es)[i]? = some row→∃ c,(listF (condG N es))[i]? = some c∧row=(nodesG N es).getD c []∧c<(nodesG N es).length:=fun i row h=>by
  unfold compsG at h
  rw [List.getElem?_map,Option.map_eq_some_iff]at h
  obtain⟨c,h1,h2⟩:=h
  exact⟨c,h1,h2.symm,(z19 c).1 (List.mem_of_getElem? h1)⟩
 refine⟨pos,fun i row h n=>?_,fun i row h=>?_,fun n hn=>?_,fun a b ha hb=>⟨fun e=>?_,fun e=>by rw [e]⟩,fun a b ha hb=>?_⟩
 ·obtain⟨c,h1,rfl,hc⟩:=hcomp i row h
  rw [z1t]
  refine and_congr_right fun hn=>⟨fun e=>?_,fun e=>?_⟩
  ·rw [e];exact huniq _ _ c (hpos c hc) h1
  ·have h2:=hpos _ (z3b (es:=es) hn)
   rw [e,h1]at h2
   exact(Option.some.inj h2).symm
 ·obtain⟨c,h1,rfl,hc⟩:=hcomp i row h
  refine⟨z8q N es c,?_⟩
  obtain⟨a,ha,_⟩:=zbt hc
  cases e:(nodesG N es).getD c []with
  | nil=>rw [e]at ha;cases ha
  | cons x l=>simp
 ·have:=(List.getElem?_eq_some_iff.1 (hpos _ (z3b (es:=es) hn))).1
  rw [z6t]
  omega
 ·have h1:=hpos _ (z3b (es:=es) ha)
  have h2:=hpos _ (z3b (es:=es) hb)
  rw [e,h2]at h1
  exact(Option.some.inj h1).symm
 ·have hbN:b<N:=by have:=z2c (N:=N) (es:=es) a b hb;rwa [z08]at this
  by_cases e:clG N es a=clG N es b
  ·rw [e];exact zq _
  ·have h1:=hpos _ (z3b (es:=es) ha)
   have h2:=ho.top _ _ h1 (clG N es b) (z3f.2 ⟨a,b,ha,hb,rfl,rfl,e⟩)
   obtain⟨j,hj⟩:=List.mem_iff_getElem?.1 h2
   have hjl:j<pos (clG N es a):=by have:=(zc hj);rw [List.length_take]at this;omega
   rw [List.getElem?_take,if_pos hjl]at hj
   have:=huniq _ _ _ (hpos _ (z3b (es:=es) hbN)) hj
   omega
section
open Go.Proofs.Tryz Go
theorem z89 (N:Nat)(es:List (Int×Int)):∃ pos,CompP N es (compsG N es) pos:=by
 obtain⟨pos,h⟩:=pos_ok N es
 exact⟨fun n=>pos (clG N es n),⟨h.mem,h.srt,h.lt,fun a b ha hb he=>h.down a b ha (zew.2 ⟨ha,hb,he⟩)⟩,fun a b ha hb=>(h.inj a b ha hb).trans (zec ha hb)⟩
theorem zbh {N:Nat}{es:List (Int×Int)}{lv:Nat→Nat}(h:LevP N es lv):∀ (m c:Nat),c<(nodesG N es).length→lv c=m→∀ i,i≤m→∃ d,d<(nodesG N es).length∧lv d=i
 | 0,c,hc,hm,i,hi=>⟨c,hc,by omega⟩
 | m+1,c,hc,hm,i,hi=>by
  by_cases e:i=m+1
  ·exact⟨c,hc,by omega⟩
  ·rcases h.attain c hc with h0 | ⟨d,hd,hl⟩
   ·omega
   ·have hdl:=(z3t N es).1 c d hd
    rw [(z0s N es).1]at hdl
    exact zbh h m d hdl (by omega) i (by omega)
theorem zbi {N:Nat}{es:List (Int×Int)}{lv:Nat→Nat}(h:LevP N es lv){i:Nat}(hi:i<(levelsG N es).length):∃ d,d<(nodesG N es).length∧lv d=i:=by
 rcases h.ln with h0 | ⟨c,hc,hl⟩
 ·omega
 ·exact zbh h (lv c) c hc rfl i (by omega)
theorem z74 (N:Nat)(es:List (Int×Int)):∃ pos,PartP N es (levelsG N es) pos:=by
 obtain⟨lv,h⟩:=zbj N es
 have hg:∀ (i:Nat) (row:List Nat),(levelsG N es)[i]? = some row→(levelsG N es).getD i []=row:=fun i row e=>by rw [zg,e];rfl
 refine⟨fun n=>lv (clG N es n),fun i row e n=>?_,fun i row e=>⟨?_,?_⟩,fun n hn=>h.lt _ (z3b hn),fun a b ha hb he=>?_⟩
 ·rw [← hg i row e];exact h.mem i n
 ·rw [← hg i row e];exact h.srt i
 ·obtain⟨d,hd,hl⟩:=zbi h (zc e)
  obtain⟨a,ha,_⟩:=zbt hd
  have ham:a∈(nodesG N es).getD d []:=List.mem_of_mem_head? ha
  obtain⟨h1,h2⟩:=z1t.1 ham
  have:a∈row:=by rw [← hg i row e];exact(h.mem i a).2 ⟨h1,by rw [h2];exact hl⟩
  exact List.length_pos_of_mem this
 ·rcases(zme h (.step (zew.2 ⟨ha,hb,he⟩) (.refl b)) ha).2 with e | e
  ·rw [e];exact zq _
  ·exact Nat.le_of_lt e
theorem z8j (N:Nat)(es:List (Int×Int)):(levelsG N es).length≤(compsG N es).length:=by
 obtain⟨lv,h⟩:=zbj N es
 have hch:∃ F:Nat→Nat,∀ i,i<(levelsG N es).length→F i<(nodesG N es).length∧lv (F i)=i :=
  ⟨fun i=>@dite _ (i<(levelsG N es).length) (Classical.propDecidable _) (fun hi=>(zbi h hi).choose) (fun _=>0),fun i hi=>by
   show(@dite _ (i<(levelsG N es).length) (Classical.propDecidable _) (fun hi=>(zbi h hi).choose) (fun _=>0))<_∧lv (@dite _ (i<(levelsG N es).length) (Classical.propDecidable _) (fun hi=>(zbi h hi).choose) (fun _=>0))=i
   rw [dif_pos hi]
   exact(zbi h hi).choose_spec⟩
 obtain⟨F,hF⟩:=hch
 have hn:((List.range (levelsG N es).length).map F).Nodup:=by
  unfold List.Nodup
  rw [List.pairwise_map]
  refine List.pairwise_lt_range.imp_of_mem fun {i j} hi hj hij e=>?_
  have h1:=(hF i (List.mem_range.1 hi)).2
  have h2:=(hF j (List.mem_range.1 hj)).2
  rw [e]at h1
  omega
 have:=z1i hn (m:=List.range (nodesG N es).length) fun a ha=>by
  obtain⟨i,hi,rfl⟩:=List.mem_map.1 ha
  exact List.mem_range.2 (hF i (List.mem_range.1 hi)).1
 rw [z6t]
 simpa using this
noncomputable def errW (X:List RelL)(f t:List SelL):Int:=if consV X f≠0 then consV X f else consV X t
theorem z6v {X:List RelL}{f t:List SelL}:errW X f t=0 ↔ ConsP X f∧ConsP X t:=by
 unfold errW
 by_cases h:consV X f=0
 ·rw [if_neg (fun g=>g h),z0b]
  exact⟨fun g=>⟨z0b.1 h,g⟩,fun g=>g.2⟩
 ·rw [if_pos h]
  exact⟨fun g=>absurd g h,fun g=>absurd (z0b.2 g.1) h⟩
def grpW (X:List RelL)(f t:List SelL):List (List ByteArray):=nameL (movesP f t) (compsG (movesP f t).length (wavE X f t))
def wavW (X:List RelL)(f t:List SelL):List (List ByteArray):=nameL (movesP f t) (levelsG (movesP f t).length (wavE X f t))
open Classical in
noncomputable def planV (X:List RelL)(f t:List SelL)(plan:List (List ByteArray)):Int :=
 if errW X f t≠0 then errW X f t
 else if ¬ ((∀ l∈plan,l≠[]∧IncB l)∧plan.flatten.Nodup∧∀ p,p∈plan.flatten ↔ p∈movesP f t) then 1
 else if ∃ i,i<plan.length∧¬ ConsP X (betV f t (plan.take (i+1)).flatten) then 17 else 0
theorem z8s {X:List RelL}{f t:List SelL}{plan:List (List ByteArray)}:planV X f t plan=0 ↔ errW X f t=0∧PlanP X f t plan:=by
 unfold planV
 by_cases h0:errW X f t=0
 ·rw [if_neg (fun g=>g h0)]
  by_cases h1:(∀ l∈plan,l≠[]∧IncB l)∧plan.flatten.Nodup∧∀ p,p∈plan.flatten ↔ p∈movesP f t
  ·rw [if_neg (fun g=>g h1)]
   by_cases h2:∃ i,i<plan.length∧¬ ConsP X (betV f t (plan.take (i+1)).flatten)
   ·rw [if_pos h2]
    obtain⟨i,hi,hn⟩:=h2
    exact⟨fun g=>absurd g (by decide),fun g=>absurd (g.2.cons i hi) hn⟩
   ·rw [if_neg h2]
    exact⟨fun _=>⟨h0,h1.1,h1.2.1,h1.2.2,fun i hi=>Classical.byContradiction fun hn=>h2 ⟨i,hi,hn⟩⟩,fun _=>rfl⟩
  ·rw [if_pos h1]
   exact⟨fun g=>absurd g (by decide),fun g=>absurd ⟨g.2.ne,g.2.nod,g.2.mem⟩ h1⟩
 ·rw [if_pos h0]
  exact⟨fun g=>absurd g h0,fun g=>absurd g.1 h0⟩
theorem zin {X:List RelL}{f t:List SelL}(h:errW X f t=0):planV X f t (grpW X f t)=0∧planV X f t (wavW X f t)=0∧(wavW X f t).length≤(grpW X f t).length∧betV f t (grpW X f t).flatten=t∧betV f t []=f:=by
 obtain⟨hf,ht⟩:=z6v.1 h
 obtain⟨pos,hc⟩:=z89 (movesP f t).length (wavE X f t)
 obtain⟨pos2,hl⟩:=z74 (movesP f t).length (wavE X f t)
 have hp:=zc0 hf ht hc.part
 refine⟨z8s.2 ⟨h,hp⟩,z8s.2 ⟨h,zc0 hf ht hl⟩,?_,zh5 hf.incr ht.incr hf ht fun p hm=>(hp.mem p).2 hm,zjr hf ht⟩
 unfold wavW grpW nameL
 rw [List.length_map,List.length_map]
 exact z8j _ _
end
section
open Go.Proofs.Tryz Go Go.RowKit Go.Maps
theorem z0f {X:List RelL}{s:List SelL}(h:consV X s=0):checkX X=0∧incrS s∧∀ y∈s,(findR X y).isSome=true:=by
 unfold consV at h
 split at h
 ·cases h
 ·rename_i h1
  split at h
  ·cases h
  ·rename_i h2
   refine⟨Classical.byContradiction fun e=>h1 (.inl e),Classical.byContradiction fun e=>h1 (.inr e),fun y hy=>?_⟩
   cases hf:findR X y with
   | none=>exact absurd ⟨y,hy,hf⟩ h2
   | some _=>rfl
theorem z2p:∀ l m:List ByteArray,(mergeU l m).length≤l.length+m.length
 | [],m=>by rw [z1e];simp
 | a::l,[]=>by rw [z23];simp
 | a::l,b::m=>by
  rw [z10]
  split
  ·have:=z2p l m;simp only [List.length_cons];omega
  ·split
   ·have:=z2p l (b::m);simp only [List.length_cons]at *;omega
   ·have:=z2p (a::l) m;simp only [List.length_cons]at *;omega
 termination_by l m=>l.length+m.length
theorem z1s (f t:List SelL):(movesP f t).length≤f.length+t.length:=by
 have h1:(movesP f t).length≤(allP f t).length:=List.length_filter_le _ _
 have h2:=z2p (f.map (·.1)) (t.map (·.1))
 rw [List.length_map,List.length_map]at h2
 unfold allP at h1
 omega
def UpV (X:List RelL)(f t:List SelL)(L:List ByteArray)(b:Nat)(W:World):Prop:=∃ m1 m2 fv tv pv B,W.heap[b]? = some (.cells #[.map (some m1),.map (some m2),fv,tv,pv] 93 (0,0))∧SideAt X f m1 W∧SideAt X t m2 W∧W.ownsRow B 9 1 pv L.length (strsC L)∧SelsOf W.heap.size fv f W∧SelsOf W.heap.size tv t W
theorem UpV.below {X:List RelL}{f t:List SelL}{L:List ByteArray}{b:Nat}{W W':World}(h:UpV X f t L b W)(hb:Below W.heap.size W W'):UpV X f t L b W':=by
 obtain⟨m1,m2,fv,tv,pv,B,h1,h2,h3,h4,h5,h6⟩:=h
 exact⟨m1,m2,fv,tv,pv,B,(hb.block _ (zb h1)).trans h1,h2.below hb,h3.below hb,z07 h4 hb,h5.on hb,h6.on hb⟩
def UpgR (X:List RelL)(f t:List SelL)(w:World)(e:Ending)(w':World):Prop:=Below w.heap.size w w'∧∃ g:Option Addr,e=.returned (.tuple #[.pointer g,.int .i64 (errW X f t)])∧(errW X f t=0→∃ b,g=some ⟨b,0,none⟩∧UpV X f t (movesP f t) b w')
theorem UpgR.no {X:List RelL}{f t:List SelL}{w w':World}{E:Int}(hb:Below w.heap.size w w')(h:errW X f t=E)(h0:E≠0):UpgR X f t w (.returned (.tuple #[.pointer none,.int .i64 E])) w':=⟨hb,none,by rw [h],fun e=>absurd (h.symm.trans e) h0⟩
structure UpJ (w3:World)(g:Nat)(a b c d:Value)(xs:List ByteArray)(pv:Value)(W:World):Prop where
 bel:Below g w3 W
 lo:g<w3.heap.size
 mid:∀ k,k<w3.heap.size→k≠g→W.heap[k]? = w3.heap[k]?
 out:W.heap[g]? = some (.cells #[a,b,c,d,pv] 93 (0,0))
 row:W.ownsRow w3.heap.size 9 1 pv xs.length (strsC xs)
section
variable {w3 W W':World} {g:Nat} {a b c d pv:Value} {xs:List ByteArray}
theorem UpJ.below (h:UpJ w3 g a b c d xs pv W)(hb:Below W.heap.size W W'):UpJ w3 g a b c d xs pv W':=by
 obtain⟨h1,h2,h3,h4,h5⟩:=h
 have hs:=h1.size
 exact⟨h1.trans (hb.mono (by omega)),h2,fun k hk hn=>(hb.block k (by omega)).trans (h3 k hk hn),(hb.block g (by omega)).trans h4,z07 h5 hb⟩
theorem UpJ.keep {W6:World}(h:UpJ w3 g a b c d xs pv W)(hg:W.grownBy W6 pv.ownBlock):W6.heap[g]? = some (.cells #[a,b,c,d,pv] 93 (0,0)):=by
 have hs:=h.bel.size
 have h2:=h.lo
 exact(hg.block g (by omega) (fun e=>by have:=(z0g h.row _ e.symm).1;omega)).trans h.out
theorem UpJ.push {W6:World}{pv':Value}{p:ByteArray}(h:UpJ w3 g a b c d xs pv W)(hown:W6.ownsRow w3.heap.size 9 1 pv' (xs.length+1) (strsC xs++[.string p]))(hg:W.grownBy W6 pv.ownBlock):UpJ w3 g a b c d (xs++[p]) pv' (W6.setCell ⟨g,4,none⟩ pv'):=by
 have hk:=h.keep hg
 obtain⟨h1,h2,h3,h4,h5⟩:=h
 have hs:=h1.size
 have lo:∀ b,some b=pv.ownBlock→w3.heap.size≤b:=fun b hb=>(z0g h5 b hb.symm).1
 have g2:=z0e W6 g 4 pv'
 refine⟨(h1.grown hg (by omega) (fun b hb=>by have:=lo b hb.symm;omega)).setCell (zq _) _,h2,fun k hk hn=>?_,heap_setCell_same _ _ 4 _ _ pv' hk,?_⟩
 ·have hk6:=hg.size
  exact(g2.block k (by omega) (fun e=>hn (by injection e))).trans ((hg.block k (by omega) (fun e=>by have:=lo _ e;omega)).trans (h3 k hk hn))
 ·rw [List.length_append,z1v]
  exact z1q hown g2 (by omega)
theorem zlb {g:Nat}{W:World}{m1 m2:Option Nat}{a1 a2 a3:Option Addr}{n1 n2 n3 c1 c2 c3:Nat}{T:TypeId}(h:W.heap[g]? = some (.cells #[.map m1,.map m2,.slice a1 n1 c1,.slice a2 n2 c2,.slice a3 n3 c3] T (0,0)))(j:Nat)(p:ByteArray):W.cell? ⟨g,j,none⟩≠some (.string p):=fun e=>by
 unfold World.cell? at e
 simp [h]at e
 rcases j with _ | _ | _ | _ | _ | j<;>simp at e
end
theorem zj3 {ops:Array Oper}{o:Oper}{a:Act}{K:Act→World→Prop}{Q:Exit→Act→World→Prop}{E:Prop}(w w0:World)(hgd:o.guard=none)(s x:Operand)
  (ho:o.op=.call { callee:=.builtin .append,args:=#[s,x],argTypes:=#[29,29] }) (B:Nat) (v:Value) (n:Nat) (xs:List Value) (hs:a.eval s=v) (hown:Hid (w.ownsRow B 9 1 v n xs))
  (p:ByteArray) (hw0:w0=w.alloc (.cells #[.string p] 9)) (hx:a.eval x=.slice (some ⟨w.heap.size,0,none⟩) 1 1) (hb:n≤100000000) (hB:B≤w.heap.size)
  (h:∀ g cap w',Hid (w'.ownsRow B 9 1 (.slice (some ⟨g,0,none⟩) (n+1) cap) (n+1) (xs++[.string p]))→Hid (w.grownBy w' v.ownBlock)→K (a.put o.dst (.slice (some ⟨g,0,none⟩) (n+1) cap)) w') :
  if Region.wanted o (yielded ops a.tmps)=true then Oper.wp prog o a w0 K Q else E:=by
 have hw:Region.wanted o (yielded ops a.tmps)=true:=by simp [Region.wanted,hgd]
 rw [if_pos hw]
 subst hw0
 obtain⟨i0,hi,hz0,hz1,hz2⟩:=info_parts z1z
 have ho1:=hown.out
 obtain⟨v',w',hrun,hown',hgrow,_⟩:=run_append_own (P:=prog) (w.alloc (.cells #[.string p] 9)) B 29 o.type 9 i0 (.string ⟨#[]⟩) 1 16 underlying29 hi hz0 hz1 hz2 rfl (by decide) v n xs (ho1.alloc _) ⟨w.heap.size,0,none⟩ 1 1 [.string p] rfl (World.news_of_block (zn w _)) (by simp [Value.oneCell']) (by unfold maxLen;omega) (by omega) (by simp;omega)
 have hq:=belQ w (.cells #[.string p] 9)
 have hsz:=hq.size
 have hgw:w.grownBy w' v.ownBlock:=⟨hgrow.os.trans hq.os,hgrow.tape.trans hq.tape,hgrow.output.trans hq.output,Nat.le_trans hsz hgrow.size,fun k hk hne=>(hgrow.block k (by omega) hne).trans (hq.block k hk)⟩
 obtain⟨g,cap,rfl⟩:=ownsRow_succ hown'
 unfold Oper.wp
 simp [execOp,ho,resolve,invoke,builtin,hs,hx,hrun,Result.andThen]
 exact h g cap w' (zh hown') (zh hgw)
theorem z2k (v iv fv tv:Value)(X:List RelL)(f t:List SelL)(w:World)(hm:MaxOk w)(hX:X.length≤1000000)(hq:∀ x∈X,RelBd x)(hR:RelsOf w.heap.size v X w)
  (hf:f.length≤1000000) (hfy:∀ y∈f,SelBd y) (hF:SelsOf w.heap.size fv f w) (ht:t.length≤1000000) (hty:∀ y∈t,SelBd y) (hT:SelsOf w.heap.size tv t w) :
  Calls prog 26 #[.agg #[v,iv],fv,tv] w (UpgR X f t w):=by
 have HC1:=zh (fun W (hb:RowKit.Below w.heap.size w W)=>z2h v iv fv X f W (hm.below hb hm.pos) hX hq (hR.on hb) hf hfy (hF.on hb))
 have HC2:=zh (fun W (hb:RowKit.Below w.heap.size w W)=>z2h v iv tv X t W (hm.below hb hm.pos) hX hq (hR.on hb) ht hty (hT.on hb))
 have HMV:=zh (fun W (hb:RowKit.Below w.heap.size w W) (h1:consV X f=0) (h2:consV X t=0) =>
  zgz fv tv f t W hf ht (z0f h1).2.1 (z0f h2).2.1 (fun y hy=>z0y (z0f h1).1 ((z0f h1).2.2 y hy)) (fun y hy=>z0y (z0f h2).1 ((z0f h2).2.2 y hy)) (fun y hy=>(hfy y hy).path) (fun y hy=>(hty y hy).path) (hF.on hb) (hT.on hb))
 have hml:(movesP f t).length≤100000000:=by
  have h:=z1s f t
  omega
 obtain⟨va,vn,vc,rfl⟩:∃ a n c,v=.slice a n c:=by obtain⟨a,c,_,e,_⟩:=hR.rv;exact⟨_,_,_,e⟩
 obtain⟨fa,fc,rfl⟩:=zo hF
 obtain⟨ta,tc,rfl⟩:=zo hT
 have HML:=zh hml
 have HSF:=zh hF
 have HST:=zh hT
 clear hm hq hR hF hT hfy hty hml
 have HB0:=zh (IdxBx.start w (.slice va vn vc) iv)
 have HEW:Hid (errW X f t=if consV X f≠0 then consV X f else consV X t):=zh rfl
 unfold ConsR at HC1 HC2
 generalize consV X f=E1 at *
 generalize consV X t=E2 at *
 go_enter func26,ntmps26
 go_upto_region 1 with fail
 generalize w.alloc (.cells #[.slice va vn vc,iv] 25)=W at *
 have c0:=HB0.out.c0
 have c1:=HB0.out.c1
 go_wp2_with fail
 refine(HC1.out _ HB0.out.bel).mono ?_
 rintro e w1 ⟨hb1,m,rfl,hm1⟩
 have HB1:=zh (HB0.out.below hb1)
 have HS1:=zh hm1
 clear hb1 hm1 c0 c1 HC1 HB0
 have c0:=HB1.out.c0
 have c1:=HB1.out.c1
 by_cases hE1:E1=0
 case neg =>
  have hE1b:(E1 != 0)=true:=by simpa using hE1
  have HV:Hid (errW X f t=E1):=zh (by rw [HEW.out,if_pos hE1])
  clear c0 c1
  go_wp2_with fail
  go_ret2
  exact UpgR.no HB1.out.bel HV.out hE1
 subst hE1
 obtain⟨m1,e,hs1⟩:=HS1.out rfl
 subst e
 clear HS1
 have HSA:=zh hs1
 clear hs1
 go_wp2_with fail
 refine(HC2.out _ HB1.out.bel).mono ?_
 rintro e w2 ⟨hb2,m,rfl,hm2⟩
 have HB2:=zh (HB1.out.below hb2)
 have HSA:=zh (HSA.out.below hb2)
 have HS2:=zh hm2
 clear hb2 hm2 c0 c1 HC2 HB1
 have HV:Hid (errW X f t=E2):=zh (by rw [HEW.out,if_neg (fun h=>h rfl)])
 by_cases hE2:E2=0
 case neg =>
  have hE1b:(E2 != 0)=true:=by simpa using hE2
  go_wp2_with fail
  go_ret2
  exact UpgR.no HB2.out.bel HV.out hE2
 subst hE2
 obtain⟨m2,e,hs2⟩:=HS2.out rfl
 subst e
 clear HS2
 have HSB:=zh hs2
 clear hs2
 have hbq:=belQ w2 (.cells #[.map (some m1),.map (some m2),.slice fa f.length fc,.slice ta t.length tc,.slice none 0 0] 93)
 have HN3:=zh (zn w2 (.cells #[.map (some m1),.map (some m2),.slice fa f.length fc,.slice ta t.length tc,.slice none 0 0] 93))
 have HQ3:=zh hbq
 have HB3:=zh (HB2.out.bel.trans (hbq.mono HB2.out.bel.size))
 clear hbq
 go_upto_region 8 with fail
 generalize w2.alloc (.cells #[.map (some m1),.map (some m2),.slice fa f.length fc,.slice ta t.length tc,.slice none 0 0] 93)=wa at *
 go_wp2_with fail
 refine(HMV.out _ HB3.out trivial trivial).mono ?_
 rintro e w3 ⟨mv,rfl,hmv,hb3⟩
 have HB4:=zh (HB2.out.bel.trans ((HQ3.out.trans (hb3.mono HQ3.out.size)).mono HB2.out.bel.size))
 have HQ4:=zh (HQ3.out.trans (hb3.mono HQ3.out.size))
 have hgl:w2.heap.size<wa.heap.size:=(zb HN3.out)
 have HN4:=zh ((hb3.block _ hgl).trans HN3.out)
 have hgl3:w2.heap.size<w3.heap.size:=Nat.lt_of_lt_of_le hgl hb3.size
 have HMO:=zh hmv
 obtain⟨ma,mc,hme,_⟩:=hmv
 subst hme
 obtain⟨g,hg⟩:∃ g,w2.heap.size=g:=⟨_,rfl⟩
 rw [hg]at HN3 HN4 HQ3 HQ4 hgl hgl3
 have HGE:=zh hg
 simp only [hg]
 clear hg hb3 HMV HN3 hgl HEW
 obtain⟨L,hL⟩:∃ L,movesP f t=L:=⟨_,rfl⟩
 rw [hL]at HML HMO
 have HLE:=zh hL
 simp only [hL]
 clear hL
 go_upto_region 9 with fail
 go_wp2_with fail
 go_loopw [48] (fun p wr=>Hid (∃ (k:Nat) (pv:Value),k≤L.length∧p=.int .i64 (k:Int)∧UpJ w3 g (.map (some m1)) (.map (some m2)) (.slice fa f.length fc) (.slice ta t.length tc) (L.take k) pv wr)) (fun p _=>L.length - (intOf p).toNat)
 case atStart=>exact zh ⟨0,_,Nat.zero_le _,rfl,Below.refl _ _,hgl3,fun _ _ _=>rfl,HN4.out,World.ownsRow_nil _ _ _ _⟩
 case round =>
  obtain⟨k,pv,hk,rfl,hj⟩:=hrel.out
  have HJ:=zh hj
  have hlen:(L.take k).length=k:=by rw [List.length_take];omega
  obtain⟨pa,pc,rfl⟩:∃ a c,pv=.slice a k c:=by obtain⟨a,c,e⟩:=z05 hj.row;exact⟨a,c,by rw [e,hlen]⟩
  clear hrel hj
  have hmlk:=HML.out
  by_cases hlt:k<L.length
  case neg =>
   have hkk:k=L.length:=Nat.le_antisymm hk (Nat.le_of_not_lt hlt)
   clear hk hmlk
   subst hkk
   have HRS:Hid (UpgR X f t w (.returned (.tuple #[.pointer (some ⟨g,0,none⟩),.int .i64 0])) wr):=zh (by
    have hj:=HJ.out
    rw [List.take_length]at hj
    have hge:=HGE.out
    have hb2:Below w2.heap.size w2 wr:=by rw [hge];exact HQ4.out.trans hj.bel
    refine⟨HB2.out.bel.trans (hb2.mono HB2.out.bel.size),_,by rw [HV.out],fun _=>⟨g,rfl,m1,m2,_,_,_,w3.heap.size,hj.out,HSA.out.below hb2,HSB.out.below hb2,by rw [HLE.out];exact hj.row,HSF.out.on (HB2.out.bel.trans (hb2.mono HB2.out.bel.size)),HST.out.on (HB2.out.bel.trans (hb2.mono HB2.out.bel.size))⟩⟩)
   clear HJ
   go_wp2_with fail
   go_ret2
   exact HRS.out
  case pos =>
   have hk0:(0:Int)≤(k:Int):=Int.natCast_nonneg k
   have hkz:(k:Int)<(L.length:Int):=Int.ofNat_lt.2 hlt
   have HTK:Hid (L.take (k+1)=L.take k++[L[k]]):=zh (zs hlt)
   obtain⟨ao,cap,e0,hrow⟩:=HMO.out
   cases e0
   obtain⟨b,off,rfl,hbl,d0,d1,d2⟩:=hrow k _ (ze hlt)
   have hbg:b≠g:=fun e=>by subst e;exact zlb HN4.out _ _ d0
   have hbk:wr.heap[b]? = w3.heap[b]?:=HJ.out.mid b hbl hbg
   have d0:wr.cell? ⟨b,off+k*3,none⟩=_:=(World.cell?_of_block hbk).trans d0
   have d1:wr.cell? ⟨b,off+k*3+1,none⟩=_:=(World.cell?_of_block hbk).trans d1
   have d2:wr.cell? ⟨b,off+k*3+2,none⟩=_:=(World.cell?_of_block hbk).trans d2
   generalize L[k]=p at *
   generalize plcS f p=x at *
   generalize plcS t p=z at *
   clear hrow hbk hbg
   have hbq:=belQ wr (.cells #[.string p,intC x,intC z] 68)
   have HN5:=zh (zn wr (.cells #[.string p,intC x,intC z] 68))
   have HJ5:=zh (HJ.out.below hbq)
   clear hbq HJ
   go_upto_region 12 with fail
   generalize wr.alloc (.cells #[.string p,intC x,intC z] 68)=W1 at *
   obtain⟨gy,hgy⟩:∃ gy,wr.heap.size=gy:=⟨_,rfl⟩
   rw [hgy]at HN5
   try simp only [hgy]
   clear hgy d0 d1 d2
   have y0:W1.cell? ⟨gy,0,none⟩=some (.string p):=zw _ _ 0 _ _ _ HN5.out
   have o4:W1.cell? ⟨g,4,none⟩=some (.slice pa k pc):=zw _ _ 4 _ _ _ HJ5.out.out
   have o5:(W1.alloc (.cells #[.string p] 9)).cell? ⟨g,4,none⟩=some (.slice pa k pc):=zw _ _ 4 _ _ _ (HJ5.out.below (belQ W1 _)).out
   have HRW:Hid (W1.drew.ownsRow w3.heap.size 9 1 (.slice pa k pc) k (strsC (L.take k))):=zh (by have h:=HJ5.out.row;rw [hlen]at h;exact h.drew)
   have hsz1:w3.heap.size≤W1.drew.heap.size:=HJ5.out.bel.size
   have HPU:Hid (∀ (pv':Value) (W6:World),W6.ownsRow w3.heap.size 9 1 pv' (k+1) (strsC (L.take k)++[.string p])→W1.drew.grownBy W6 (Value.slice pa k pc).ownBlock→W6.heap[g]? = some (.cells #[.map (some m1),.map (some m2),.slice fa f.length fc,.slice ta t.length tc,.slice pa k pc] 93 (0,0))∧UpJ w3 g (.map (some m1)) (.map (some m2)) (.slice fa f.length fc) (.slice ta t.length tc) (L.take (k+1)) pv' (W6.setCell ⟨g,4,none⟩ pv')):=zh (fun pv' W6 h1 h2=>by
    have hj:UpJ w3 g (.map (some m1)) (.map (some m2)) (.slice fa f.length fc) (.slice ta t.length tc) (L.take k) (.slice pa k pc) W1.drew:=HJ5.out.below (Below.refl _ _).drew
    refine⟨hj.keep h2,?_⟩
    rw [HTK.out]
    exact hj.push (by rw [hlen];exact h1) h2)
   clear HN5 HJ5 hlen HTK
   go_wp2_with fail
   go_region_law (go_loud (refine zj3 _ _ rfl _ _ (by rfl) w3.heap.size _ _ _ (by rfl) HRW _ (by rfl) (by rfl) (by omega) hsz1 ?_);intro g3 gc3 W6 HO6 HG6;have q6:=(HPU.out _ _ HO6.out HG6.out).1;have r6:=zw _ _ 4 _ _ _ q6;have f6:=frozen_of_row _ _ 4 _ _ q6;have HP6:=zh (HPU.out _ _ HO6.out HG6.out).2;clear q6)
   all_goals
    go_wp2_with fail
    refine⟨zh ⟨k+1,_,hlt,by go_num,HP6.out⟩,?_⟩
    simp [intOf];omega
end
section
open Go.Proofs.Tryz Go Go.RowKit Go.Maps
structure GoodS (X:List RelL)(s:List SelL):Prop where
 chk:checkX X=0
 inc:incrS s
 fnd:∀ y∈s,(findR X y).isSome=true
 bd:∀ x∈X,RelBd x
theorem zfo (X:List RelL)(s:List SelL)(hG:GoodS X s)(b:ByteArray)(q:ReqL)(r:Value)(m cb cm:Nat)(W:World)(hq:q.1.size≤1000000)(hl:q.2.length≤1000000000)(hS:SpansOf W.heap.size r q.2 W)(hm:SideAt X s m W)
  (hb:W.cell? ⟨cb,0,none⟩=some (.string b)) (hc:W.cell? ⟨cm,0,none⟩=some (.map (some m))) :
  Calls prog 86 #[.agg #[.string q.1,r],.pointer (some ⟨cb,0,none⟩),.pointer (some ⟨cm,0,none⟩)] W fun e w'=>e=.returned (.bool (decide (q.1=b)&&!metB s q))∧Below W.heap.size W w':=by
 have hltb:=World.block_lt_of_cell? _ _ hb
 have hltc:=World.block_lt_of_cell? _ _ hc
 simp only at hltb hltc
 have hbq:=belQ W (.cells #[.string q.1,r] 89)
 have HSA:=zh (z4x X s hG.chk hG.inc hG.fnd q r m (W.alloc (.cells #[.string q.1,r] 89)) hq hl ((hS.below hbq (zq _)).mono hbq.size) (hm.below hbq))
 have HN:=zh (zn W (.cells #[.string q.1,r] 89))
 have HB:=zh hbq
 obtain⟨ra,rc,rfl⟩:=zo hS
 have hc1:(W.alloc (.cells #[.string q.1,.slice ra q.2.length rc] 89)).cell? ⟨cm,0,none⟩=some (.map (some m)):=(HB.out.cell (p:=⟨cm,0,none⟩) hltc).trans hc
 have hb1:(W.alloc (.cells #[.string q.1,.slice ra q.2.length rc] 89)).cell? ⟨cb,0,none⟩=some (.string b):=(HB.out.cell (p:=⟨cb,0,none⟩) hltb).trans hb
 obtain⟨mb,hmb⟩:∃ mb,metB s q=mb:=⟨_,rfl⟩
 rw [hmb]at HSA ⊢
 obtain⟨eb,heb⟩:∃ eb,(q.1.toList == b.toList)=eb:=⟨_,rfl⟩
 rw [← z0q,heb]
 clear hm hS hc hb hbq hmb hG
 go_enter func86,ntmps86
 go_upto_region 1 with fail
 generalize W.alloc (.cells #[.string q.1,.slice ra q.2.length rc] 89)=W1 at *
 have q0:W1.cell? ⟨W.heap.size,0,none⟩=some (.string q.1):=zw _ _ 0 _ _ _ HN.out
 have q1:W1.cell? ⟨W.heap.size,1,none⟩=some (.slice ra q.2.length rc):=zw _ _ 1 _ _ _ HN.out
 cases eb with
 | true =>
  go_wp2_with fail
  refine HSA.out.mono ?_
  rintro e w2 ⟨rfl,hb2⟩
  have HB2:=zj HB hb2
  clear hb2
  go_wp2_with fail
  go_ret
  exact⟨by simp,HB2.out⟩
 | false =>
  go_wp2_with fail
  go_ret
  exact⟨by simp,HB.out⟩
theorem zcx (X:List RelL)(s:List SelL)(hG:GoodS X s)(b:ByteArray)(es:List ReqL)(m cb cm:Nat)(w:World)(hq:∀ q∈es,q.1.size≤1000000∧q.2.length≤1000000)(hm:SideAt X s m w)
  (hb:w.cell? ⟨cb,0,none⟩=some (.string b)) (hc:w.cell? ⟨cm,0,none⟩=some (.map (some m))) :
  PredQ 86 #[.pointer (some ⟨cb,0,none⟩),.pointer (some ⟨cm,0,none⟩)] es (fun q=>decide (q.1=b)&&!metB s q) w:=by
 intro W x r hx hw hS
 have hltb:=World.block_lt_of_cell? _ _ hb
 have hltc:=World.block_lt_of_cell? _ _ hc
 simp only at hltb hltc
 refine(zfo X s hG b x r m cb cm W (hq x hx).1 (by have:=(hq x hx).2;omega) hS (hm.below hw) ((hw.cell (p:=⟨cb,0,none⟩) hltb).trans hb) ((hw.cell (p:=⟨cm,0,none⟩) hltc).trans hc)).mono ?_
 rintro e w' ⟨rfl,h⟩
 exact⟨rfl,hw.trans (h.mono hw.size)⟩
theorem zix {X:List RelL}{s:List SelL}(hG:GoodS X s){f:Lit→Option Value}{W:World}(hF:SelF (SideG X W) s f)(a:ByteArray) :
  ∃ s0 i1 i2 i3 ra rc l s1 s2 s3 y,(f (.string a.data.toList)).getD zeroR=.agg #[.string s0,intC i1,intC i2,intC i3,.slice ra l.length rc,.string s1,.string s2,.string s3,.bool y]∧ReqsOf W.heap.size (.slice ra l.length rc) l W∧reqsS X s a=l∧l.length≤1000000∧∀ q∈l,q.1.size≤1000000∧q.2.length≤1000000:=by
 rcases hF a with ⟨x,rx,h1,h2,⟨h3,h4⟩,h5⟩ | ⟨h1,h2⟩
 ·have hb:=hG.bd x h3
  obtain⟨xa,xc,rfl⟩:=zo h4
  have hat:atS s a=some (keyL x):=by rw [← h2];exact z6n hG.inc h1
  refine⟨x.path,x.ver.1,x.ver.2.1,x.ver.2.2,xa,xc,x.reqs,x.ar,x.ifc,x.cert,x.yk,by rw [h5];rfl,h4,?_,hb.len,hb.reqs⟩
  unfold reqsS
  rw [hat]
  exact zc9 hG.chk h3
 ·refine⟨⟨#[]⟩,0,0,0,none,0,[],⟨#[]⟩,⟨#[]⟩,⟨#[]⟩,false,by rw [h1];rfl,⟨none,0,rfl,fun i x hx=>by cases hx⟩,?_,Nat.zero_le _,fun q hq=>by cases hq⟩
  unfold reqsS
  rw [z2w.2 h2]
theorem zd2 (s0 s1 s2 s3:ByteArray)(i1 i2 i3:Int)(r:Value)(y:Bool)(w:World):(Instr.field 82 (.agg #[.string s0,intC i1,intC i2,intC i3,r,.string s1,.string s2,.string s3,.bool y]) 2).run prog w=.ok r w:=by
 have hu:=underlying82
 simp [Instr.field,run_underlying hu]
 go_simp
 simp [asAgg]
theorem zau (X:List RelL)(s o:List SelL)(hG:GoodS X s)(hO:GoodS X o)(a b:ByteArray)(ha:a.size≤maxLen)(m n:Nat)(W:World)(hm:SideAt X s m W)(hn:SideAt X o n W) :
  Calls prog 85 #[.map (some m),.string a,.map (some n),.string b] W fun e w'=>e=.returned (.bool (clashB X s a o b))∧Below W.heap.size W w':=by
 obtain⟨f,hmf,hF⟩:=hm
 obtain⟨s0,i1,i2,i3,ra,rc,l,s1,s2,s3,y,hlk,hrq,hrs,hll,hlb⟩:=zix hG hF a
 have HKY:=zh (keyStr (p:=a) ha)
 have HZR:=zh (show ∀ W,(zeroValue 82).run prog W=.ok zeroR W from zeroValue82)
 have HLK:=zh hlk
 have hq1:=belQ W (.cells #[.map (some n)] 75)
 have hq2:=belQ (W.alloc (.cells #[.map (some n)] 75)) (.cells #[.string b] 9)
 have hq:=hq1.trans (hq2.mono hq1.size)
 have HB:=zh hq
 have HMF:=zh (hmf.below hq)
 have HN1:=zh ((hq2.cell (p:=⟨W.heap.size,0,none⟩) (by simp)).trans (zw _ _ 0 _ _ _ (zn W (.cells #[.map (some n)] 75))))
 have HN2:=zh (zw _ _ 0 _ _ _ (zn (W.alloc (.cells #[.map (some n)] 75)) (.cells #[.string b] 9)))
 have HHC:=zh (zhs 86 #[.pointer (some ⟨(W.alloc (.cells #[.map (some n)] 75)).heap.size,0,none⟩),.pointer (some ⟨W.heap.size,0,none⟩)] (enters_of func86 (by kernel_rfl) rfl) _ (.slice ra l.length rc) l _ (by omega) (hrq.on hq) (zcx X o hO b l n _ _ _ hlb (hn.below hq) HN2.out HN1.out))
 have HCV:Hid (clashB X s a o b=l.any fun q=>decide (q.1=b)&&!metB o q):=zh (by unfold clashB;rw [hrs])
 rw [← HCV.out]at HHC
 generalize clashB X s a o b=bb at *
 rw [World.size_alloc]at HHC HN2
 clear hmf hF hlk hrq hrs hll hlb hq1 hq2 hq hn hG hO
 go_enter func85,ntmps85
 go_upto_region 1 with fail
 generalize hW1:(W.alloc (.cells #[.map (some n)] 75)).alloc (.cells #[.string b] 9)=W1 at *
 clear hW1
 have hfr:=zd2 s0 s1 s2 s3 i1 i2 i3 (.slice ra l.length rc) y W1
 go_wp2_with (at_lookup;refine z1c rfl _ _ 75 rfl 9 82 lawStr underlying75 (HZR.out _) m s.length f (by rfl) HMF.out _ (.string a.data.toList) rfl HKY.out ?_;rw [HLK.out])
 refine HHC.out.mono ?_
 rintro e w2 ⟨rfl,hb2⟩
 have HB2:=zj HB hb2
 clear hb2
 go_wp2_with fail
 go_ret
 exact⟨rfl,HB2.out⟩
end
section
open Go.Proofs.Tryz Go Go.RowKit
def OnlyN (K:Act→World→Prop):Exit→Act→World→Prop
 | .normal,a,w=>K a w
 | _,_,_=>False
theorem zbu {P:Program}{ops:Array Oper}{o:Oper}{a:Act}{w:World}{K:Act→World→Prop}{Q:Exit→Act→World→Prop}(hg:o.guard=none)(h:wpList P ops (OnlyN K) [o] a w):o.wp P a w K Q:=by
 unfold wpList at h
 rw [if_pos (by simp [Region.wanted,hg])]at h
 rcases h with h | ⟨_,a0,w0,hh⟩
 ·exact zbv (T:=OnlyN K) (fun e a w ht=>by cases e<;>first | rfl | exact ht.elim) (fun a w hk=>hk) h
 ·exact hh.elim
def CapOk (v:Value):Prop:=∃ a n c,v=.slice a n c∧n≤c
end
end Go.Proofs.YtapbhoodgnmnkaaGreatDoor
