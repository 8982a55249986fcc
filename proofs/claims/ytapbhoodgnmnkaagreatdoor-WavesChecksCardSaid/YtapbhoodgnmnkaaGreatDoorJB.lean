/- Laws and contracts. -/
import Derived.Test.YtapbhoodgnmnkaaGreatDoorJA
import Derived.RangeFuncBound
import Derived.Deep.AppendLies
import Derived.Laws.EntriesVeiled
import Derived.Sort.OwnSortedInts
import Derived.Sort.KeysCollected
set_option linter.unusedVariables false
set_option linter.unusedSimpArgs false
set_option maxRecDepth 100000
set_option maxHeartbeats 32000000
namespace Go.Proofs.YtapbhoodgnmnkaaGreatDoor
open Go.Proofs.Tryz Go
def valL (l:List UInt8):Int:=l.foldl (fun n b=>10*n+((b.toNat:Int) - 48)) 0
theorem z7q (l:List UInt8)(b:UInt8):valL (l++[b])=10*valL l+((b.toNat:Int) - 48):=by unfold valL;rw [List.foldl_append];rfl
theorem zdz (l:List UInt8)(h:∀ b∈l,digitZ b.toNat=true):0≤valL l∧valL l<10 ^ l.length:=by
 rcases List.eq_nil_or_concat l with rfl | ⟨m,b,rfl⟩
 ·simp [valL]
 ·rw [List.concat_eq_append]at *
  have ih:=zdz m (fun x hx=>h x (by simp [hx]))
  have hb:=h b (by simp)
  simp only [digitZ,Bool.and_eq_true,decide_eq_true_eq]at hb
  rw [z7q,List.length_append,List.length_singleton,Int.pow_succ]
  omega
termination_by l.length
decreasing_by subst_vars;simp
def tailS (s:ByteArray):ByteArray:=⟨(s.data.toList.drop 1).toArray⟩
def okR (r:ByteArray):Bool:=decide (1≤r.size)&&(decide (r.size≤3)&&(!(decide (1<r.size)&&headZ r == 48)&&allZ digitZ r))
def verOk (s:ByteArray):Bool:=headZ s == 118&&okR (tailS s)
def verN (s:ByteArray):Int:=if verOk s then valL (s.data.toList.drop 1) else 0
theorem z1w (s:ByteArray):(tailS s).data.toList=s.data.toList.drop 1:=by simp [tailS]
theorem z94 (s:ByteArray):(tailS s).size=s.size - 1:=by rw [Lib.size_eq,z1w,List.length_drop,← Lib.size_eq]
theorem z8f (s:ByteArray)(b:UInt8)(l:List UInt8)(h:s.data.toList=b::l):headZ s=b.toNat:=by
 have hs:0<s.size:=by rw [Lib.size_eq,h];simp
 rw [z3v s hs]
 have:s[0]=s.data.toList[0]'(by rw [← Lib.size_eq];exact hs):=by simp;rfl
 rw [this];simp only [h];rfl
theorem zhu (s:ByteArray)(h:s.size=0):headZ s=0:=by unfold headZ;rw [dif_neg (by omega)]
theorem za6 (s:ByteArray):Lib.hasPrefix s.data.toList [118]=(headZ s == 118):=by
 cases h:s.data.toList with
 | nil=>rw [zhu s (by rw [Lib.size_eq,h];rfl)];rfl
 | cons b l =>
  rw [z8f s b l h]
  simp only [Lib.hasPrefix,List.isPrefixOf,Bool.and_true]
  rw [Bool.eq_iff_iff,beq_iff_eq,beq_iff_eq]
  constructor
  ·intro e;rw [← e];rfl
  ·intro e;exact UInt8.toNat_inj.1 (by have:((118:UInt8).toNat)=118:=rfl;omega)
theorem trim_v (s:ByteArray)(h:headZ s=118):(⟨(Lib.trimPrefix s.data.toList [118]).toArray⟩:ByteArray)=tailS s:=by
 have h2:Lib.hasPrefix s.data.toList [118]=true:=by rw [za6,h];rfl
 unfold Lib.trimPrefix tailS
 rw [if_pos h2];rfl
section
open Go.Proofs.Tryz Go Go.RowKit
theorem zjb (r:ByteArray)(k:Nat)(h:k<r.size):valL (r.data.toList.take (k+1))=10*valL (r.data.toList.take k)+((r[k].toNat:Int) - 48):=by
 rw [zs (by simpa using h),z7q];rfl
theorem all_at (p:Int→Bool)(r:ByteArray)(h:allZ p r=true)(k:Nat)(hk:k<r.size):p (r[k].toNat)=true :=
 List.all_eq_true.1 h _ (Array.mem_toList_iff.2 (Array.getElem_mem (xs:=r.data) hk))
theorem z38 (s:ByteArray)(w:World)(hs:s.size≤140737488351232) :
  Calls prog 192 #[.string s] w fun e w'=>e=.returned (.tuple #[.int .i64 (verN s),.bool (verOk s)])∧w=w':=by
 by_cases h1:headZ s=118
 case neg =>
  have hp:Lib.hasPrefix s.data.toList [118]=false:=by rw [za6];simpa using h1
  have HT:Hid (verOk s=false):=zh (by simp [verOk,h1])
  clear h1
  go_enter func192,ntmps192
  go_wp2_with ((go_at_call 206;refine(z0t _ _ _).mono ?_;rintro e w' ⟨rfl,rfl⟩))
  go_ret2
  exact⟨z7l (by rw [verN,HT.out];rfl) HT.out.symm,rfl⟩
 have hp:Lib.hasPrefix s.data.toList [118]=true:=by rw [za6,h1];rfl
 have HO:Hid (verOk s=okR (tailS s)):=zh (by simp [verOk,h1])
 have HTR:=zh (trim_v s h1)
 have hrs:(tailS s).size≤140737488351232:=by rw [z94];omega
 have HV:Hid (verN s=if okR (tailS s) then valL (tailS s).data.toList else 0):=zh (by rw [verN,HO.out,z1w])
 generalize tailS s=r at *
 clear h1
 by_cases h2:1≤r.size
 case neg =>
  have he:=zlm r h2
  have HT:Hid (okR r=false):=zh (by simp [okR,h2])
  clear h2
  go_enter func192,ntmps192
  go_wp2_with fail
  refine(z0t _ _ _).mono ?_
  rintro e w' ⟨rfl,rfl⟩
  rw [HTR.out]
  go_wp2
  go_ret2
  exact⟨z7l (by rw [HV.out,HT.out];rfl) (by rw [HO.out,HT.out]),rfl⟩
 have he1:=zi9 r h2
 have he2:=zex r h2
 by_cases h3:r.size≤3
 case neg =>
  have HT:Hid (okR r=false):=zh (by simp [okR,h3])
  go_enter func192,ntmps192
  go_wp2_with fail
  refine(z0t _ _ _).mono ?_
  rintro e w' ⟨rfl,rfl⟩
  rw [HTR.out]
  go_wp2
  go_ret2
  exact⟨z7l (by rw [HV.out,HT.out];rfl) (by rw [HO.out,HT.out]),rfl⟩
 by_cases h4:1<r.size∧(r[0].toNat:Int)=48
 case pos =>
  obtain⟨h4,h5⟩:=h4
  have HT:Hid (okR r=false):=zh (by rw [← z3v r h2]at h5;simp [okR,h4,h5])
  have h6:((r[0].toNat:Int) == 48)=true:=by rw [h5];rfl
  clear h5
  go_enter func192,ntmps192
  go_wp2_with fail
  refine(z0t _ _ _).mono ?_
  rintro e w' ⟨rfl,rfl⟩
  rw [HTR.out]
  go_wp2
  go_ret2
  exact⟨z7l (by rw [HV.out,HT.out];rfl) (by rw [HO.out,HT.out]),rfl⟩
 have HT:Hid (okR r=allZ digitZ r):=zh (by
  rw [← z3v r h2]at h4
  have:(!(decide (1<r.size)&&headZ r == 48))=true:=by
   rw [Bool.not_eq_true',Bool.and_eq_false_iff]
   by_cases h:1<r.size
   ·exact .inr (by simpa using fun e=>h4 ⟨h,e⟩)
   ·exact .inl (by simpa using h)
  rw [okR,decide_eq_true h2,decide_eq_true h3,this];rfl)
 have hml:r.size≤maxLen:=by unfold maxLen;omega
 cases h7:allZ digitZ r
 case false =>
  by_cases h8:1<r.size
  ·have h6:((r[0].toNat:Int) == 48)=false:=by rw [beq_eq_false_iff_ne];exact fun e=>h4 ⟨h8,e⟩
   have H7:=zh h7
   clear h4
   go_enter func192,ntmps192
   go_wp2_with fail
   refine(z0t _ _ _).mono ?_
   rintro e w' ⟨rfl,rfl⟩
   rw [HTR.out]
   go_wp2_with ((go_at_call 194;refine(z56 _ _ hml).mono ?_;rintro e w' ⟨rfl,rfl⟩))
   go_ret2
   exact⟨z7l (by rw [HV.out,HT.out,H7.out];rfl) (by rw [HO.out,HT.out,H7.out]),rfl⟩
  ·have H7:=zh h7
   clear h4
   go_enter func192,ntmps192
   go_wp2_with fail
   refine(z0t _ _ _).mono ?_
   rintro e w' ⟨rfl,rfl⟩
   rw [HTR.out]
   go_wp2_with ((go_at_call 194;refine(z56 _ _ hml).mono ?_;rintro e w' ⟨rfl,rfl⟩))
   go_ret2
   exact⟨z7l (by rw [HV.out,HT.out,H7.out];rfl) (by rw [HO.out,HT.out,H7.out]),rfl⟩
 case true =>
  have H7:=zh h7
  have hfin:∀ w':World,w=w'→(Ending.returned (.tuple #[.int .i64 (valL r.data.toList),.bool true])=Ending.returned (.tuple #[.int .i64 (verN s),.bool (verOk s)]))∧w=w':=fun w' hw=>⟨z7l (by rw [HV.out,HT.out,H7.out];rfl) (by rw [HO.out,HT.out,H7.out]),hw⟩
  have HF:=zh hfin
  clear hfin
  have h6:1<r.size→¬ (r[0].toNat:Int)=48:=fun a b=>h4 ⟨a,b⟩
  have H6:=zh h6
  clear h4 h6
  by_cases h8:1<r.size
  all_goals
   first
   | have h6:((r[0].toNat:Int) == 48)=false:=by rw [beq_eq_false_iff_ne];exact H6.out h8
   | skip
   go_enter func192,ntmps192
   go_wp2_with fail
   refine(z0t _ _ _).mono ?_
   rintro e w' ⟨rfl,rfl⟩
   rw [HTR.out]
   go_wp2_with ((go_at_call 194;refine(z56 _ _ hml).mono ?_;rintro e w' ⟨rfl,rfl⟩))
   go_loop [5,40] (fun n i=>∃ (k:Nat) (x:Int),k≤r.size∧i=.int .i64 k∧n=.int .i64 x∧0≤x∧x<10 ^ k∧Hid (x=valL (r.data.toList.take k))) (fun _ i=>r.size - (intOf i).toNat)
   case atStart=>exact⟨0,0,Nat.zero_le _,rfl,rfl,by omega,by simp,zh rfl⟩
   case round =>
    obtain⟨k,x,hk,rfl,rfl,x0,x1,HA⟩:=hrel
    by_cases hlt:k<r.size
    ·have hd:=all_at _ r H7.out k hlt
     simp only [digitZ,Bool.and_eq_true,decide_eq_true_eq]at hd
     obtain⟨hd1,hd2⟩:=hd
     have x2:x<100:=by
      have:k=0∨k=1∨k=2:=by omega
      rcases this with rfl | rfl | rfl<;>simp at x1<;>omega
     have HX:=zh x1
     clear x1
     go_wp2
     go_round
     case rel=>exact⟨k+1,10*x+((r[k].toNat:Int) - 48),by omega,by go_num,rfl,by omega,by have:=HX.out;rw [Int.pow_succ];omega,zh (by rw [zjb r k hlt,← HA.out])⟩
     case measure=>simp [intOf];omega
    ·obtain rfl:k=r.size:=by omega
     clear x1
     go_wp2
     go_ret2
     have:=HF.out w rfl
     rw [← show x=valL r.data.toList from by rw [HA.out,List.take_of_length_le (by simp)]]at this
     exact this
end
section
open Go.Proofs.Tryz Go Go.RowKit
def majZ (s:ByteArray):Int:=if verOk s then verN s else -1
theorem z5f {s:ByteArray}(h:verOk s=false):majZ s=-1:=by unfold majZ;rw [h];rfl
theorem zj7 (s:ByteArray)(k:Nat)(h1:1≤k)(h:k<s.size):(s.data.toList.drop 1).take (k+1 - 1)=(s.data.toList.drop 1).take (k - 1)++[s[k]]:=by
 have e:k+1 - 1=(k - 1)+1:=by omega
 rw [e,zs (by simp;omega),List.getElem_drop]
 congr 2
 have:1+(k - 1)=k:=by omega
 simp only [this];rfl
theorem zl8 (s:ByteArray)(h:1<s.size):headZ (tailS s)=(s[1].toNat:Int):=by
 have hl:(tailS s).data.toList=s[1]::(s.data.toList.drop 2):=by
  rw [z1w]
  have:=List.drop_eq_getElem_cons (l:=s.data.toList) (i:=1) (by rw [← Lib.size_eq];exact h)
  rw [this];rfl
 rw [z8f _ _ _ hl]
theorem zgg (s:ByteArray)(w:World)(hs:s.size≤140737488351232) :
  Calls prog 189 #[.string s] w fun e w'=>e=.returned (.int .i64 (majZ s))∧w=w':=by
 have ht:=z94 s
 by_cases h1:2≤s.size
 case neg =>
  have HT:Hid (majZ s=-1):=zh (z5f (by simp [verOk,okR];intro _ h;omega))
  go_enter func189,ntmps189
  go_wp2
  go_ret
  exact⟨z5j HT.out.symm,rfl⟩
 by_cases h2:s.size≤4
 case neg =>
  have HT:Hid (majZ s=-1):=zh (z5f (by simp [verOk,okR];intro _ _ h;omega))
  go_enter func189,ntmps189
  go_wp2
  go_ret
  exact⟨z5j HT.out.symm,rfl⟩
 have hh:=z3v s (by omega)
 have hg:=zl8 s (by omega)
 cases h3:((s[0].toNat:Int) == 118)
 case false =>
  have HT:Hid (majZ s=-1):=zh (z5f (by rw [verOk,hh,h3];rfl))
  have h3':((s[0].toNat:Int) != 118)=true:=by rw [bne,h3];rfl
  clear hh hg h3 ht
  go_enter func189,ntmps189
  go_wp2
  go_ret
  exact⟨z5j HT.out.symm,rfl⟩
 have h3':((s[0].toNat:Int) != 118)=false:=by rw [bne,h3];rfl
 by_cases h4:(s[1].toNat:Int)=48∧2<s.size
 case pos =>
  obtain⟨h4,h5⟩:=h4
  have HT:Hid (majZ s=-1):=zh (z5f (by
   rw [verOk,okR,hg,h4]
   have:decide (1<(tailS s).size)=true:=by rw [ht];simp;omega
   rw [this];simp))
  have h4':((s[1].toNat:Int) == 48)=true:=by rw [h4];rfl
  clear hh hg h3 ht h4
  go_enter func189,ntmps189
  go_wp2
  go_ret
  exact⟨z5j HT.out.symm,rfl⟩
 have HO:Hid (verOk s=allZ digitZ (tailS s)):=zh (by
  have e:(!(decide (1<(tailS s).size)&&headZ (tailS s) == 48))=true:=by
   rw [Bool.not_eq_true',Bool.and_eq_false_iff,ht,hg]
   by_cases h:(s[1].toNat:Int)=48
   ·exact .inl (by simp;have:¬ 2<s.size:=fun x=>h4 ⟨h,x⟩;omega)
   ·exact .inr (by simpa using h)
  rw [verOk,okR,hh,h3,e,decide_eq_true (show 1≤(tailS s).size by omega),decide_eq_true (show(tailS s).size≤3 by omega)];rfl)
 have HG:=zh h4
 have HH3:=zh h3
 clear h4 hh hg ht h3
 cases h5:((s[1].toNat:Int) == 48)
 all_goals
  first
  | (have h6:s.size≤2:=by
      have:=HG.out
      rw [beq_iff_eq]at h5
      by_cases h:2<s.size
      ·exact absurd ⟨h5,h⟩ this
      ·omega)
  | skip
  go_enter func189,ntmps189
  go_wp2
  go_loop [3,4] (fun n i=>∃ (k:Nat) (x:Int),1≤k∧k≤s.size∧i=.int .i64 k∧n=.int .i64 x∧0≤x∧x<10 ^ (k - 1)∧Hid (x=valL ((s.data.toList.drop 1).take (k - 1))∧((s.data.toList.drop 1).take (k - 1)).all (fun b=>digitZ b.toNat)=true)) (fun _ i=>s.size - (intOf i).toNat)
  case atStart=>exact⟨1,0,by omega,by omega,rfl,rfl,by omega,by simp,zh ⟨rfl,rfl⟩⟩
  case round =>
   obtain⟨k,x,hk1,hk,rfl,rfl,x0,x1,HA⟩:=hrel
   by_cases hlt:k<s.size
   ·have HS:=zh (zj7 s k hk1 hlt)
    have x2:x<1000:=by
     have:k=1∨k=2∨k=3:=by omega
     rcases this with rfl | rfl | rfl<;>simp at x1<;>omega
    have HX:=zh x1
    clear x1
    cases hd:digitZ (s[k].toNat:Int)
    ·have HN:Hid (majZ s=-1):=zh (z5f (by
      rw [HO.out,allZ,z1w,List.all_eq_false]
      refine⟨s[k],?_,by rw [hd];exact Bool.false_ne_true⟩
      have:s[k]∈(s.data.toList.drop 1).take (k+1 - 1):=by rw [HS.out];simp
      exact List.mem_of_mem_take this))
     clear h5
     go_wp2_with ((go_at_call 203;refine(z1u _ _).mono ?_;rintro e w' ⟨rfl,rfl⟩))
     go_ret
     exact⟨z5j HN.out.symm,rfl⟩
    ·have HD:=zh hd
     have hd':=hd
     simp only [digitZ,Bool.and_eq_true,decide_eq_true_eq]at hd'
     obtain⟨hd1,hd2⟩:=hd'
     clear h5
     go_wp2_with ((go_at_call 203;refine(z1u _ _).mono ?_;rintro e w' ⟨rfl,rfl⟩))
     go_round
     case rel=>exact⟨k+1,10*x+((s[k].toNat:Int) - 48),by omega,by omega,by go_num,rfl,by omega,by have:=HX.out;rw [show k+1 - 1=(k - 1)+1 from by omega,Int.pow_succ];omega,zh ⟨by rw [HS.out,z7q,← HA.out.1],by rw [HS.out,List.all_append,HA.out.2];simp [HD.out]⟩⟩
     case measure=>simp [intOf];omega
   ·obtain rfl:k=s.size:=by omega
    clear x1 h5
    go_wp2
    go_ret
    have e:(s.data.toList.drop 1).take (s.size - 1)=s.data.toList.drop 1:=List.take_of_length_le (by simp)
    have ho:verOk s=true:=by rw [HO.out,allZ,z1w,← e];exact HA.out.2
    exact⟨z5j (by rw [majZ,verN,ho,HA.out.1,e];rfl),rfl⟩
end
def segsL:List UInt8→List (List UInt8)
 | []=>[[]]
 | c::r=>if c=47 then []::segsL r else match segsL r with
  | []=>[[c]]
  | h::t=>(c::h)::t
theorem z31 (l:List UInt8):segsL l≠[]:=by
 cases l with
 | nil=>simp [segsL]
 | cons c r =>
  unfold segsL
  split
  ·simp
  ·split<;>simp
theorem z32 (r:List UInt8):segsL (47::r)=[]::segsL r:=by rw [segsL,if_pos rfl]
theorem z14 (c:UInt8)(r h:List UInt8)(t:List (List UInt8))(hc:c≠47)(e:segsL r=h::t):segsL (c::r)=(c::h)::t:=by rw [segsL,if_neg hc,e]
theorem zce (a:List UInt8)(h:∀ b∈a,b≠47):segsL a=[a]:=by
 induction a with
 | nil=>rfl
 | cons c a ih=>exact z14 c a a [] (h c (by simp)) (ih (fun b hb=>h b (by simp [hb])))
theorem ziu (a r:List UInt8)(h:∀ b∈a,b≠47):segsL (a++47::r)=a::segsL r:=by
 induction a with
 | nil=>exact z32 r
 | cons c a ih=>exact z14 c _ a _ (h c (by simp)) (ih (fun b hb=>h b (by simp [hb])))
theorem z63 (l:List UInt8):segsL (l++[47])=segsL l++[[]]:=by
 induction l with
 | nil=>rfl
 | cons c r ih =>
  by_cases hc:c=47
  ·subst hc;rw [List.cons_append,z32,z32,ih];rfl
  ·cases e:segsL r with
   | nil=>exact absurd e (z31 r)
   | cons h t=>rw [List.cons_append,z14 c _ h (t++[[]]) hc (by rw [ih,e];rfl),z14 c r h t hc e];rfl
theorem z62 (l:List UInt8)(c:UInt8)(hc:c≠47):segsL (l++[c])=(segsL l).dropLast++[(segsL l).getLast (z31 l)++[c]]:=by
 induction l with
 | nil=>simp [segsL,hc]
 | cons d r ih =>
  by_cases hd:d=47
  ·subst hd
   simp only [List.cons_append,z32,ih]
   rw [List.dropLast_cons_of_ne_nil (z31 r)]
   simp [List.getLast_cons (z31 r)]
  ·cases e:segsL r with
   | nil=>exact absurd e (z31 r)
   | cons h t =>
    have e2:=z14 d r h t hd e
    cases t with
    | nil =>
     have:segsL (r++[c])=[h++[c]]:=by rw [ih];simp [e]
     rw [List.cons_append,z14 d _ _ _ hd this]
     simp [e2]
    | cons x t =>
     have:segsL (r++[c])=h::((x::t).dropLast++[(x::t).getLast (by simp)++[c]]):=by
      rw [ih];simp only [e,List.dropLast_cons_cons,List.cons_append,List.getLast_cons_cons]
     rw [List.cons_append,z14 d _ _ _ hd this]
     simp only [e2,List.dropLast_cons_cons,List.cons_append,List.getLast_cons_cons]
theorem piece (l:List UInt8)(i:Nat)(h:Lib.indexByte l 47=i):l=l.take i++47::l.drop (i+1)∧∀ b∈l.take i,b≠47:=by
 obtain⟨h1,h2⟩:=Lib.indexByte_some h
 have hi:i<l.length:=by
  rcases Nat.lt_or_ge i l.length with h | h
  ·exact h
  ·rw [List.getElem?_eq_none h]at h1;exact absurd h1 (by simp)
 have e:l[i]=47:=by rw [ze hi]at h1;exact Option.some.inj h1
 refine⟨by rw [← e,List.getElem_cons_drop,List.take_append_drop],fun b hb=>?_⟩
 obtain⟨j,hj,rfl⟩:=List.getElem_of_mem hb
 rw [List.getElem_take]
 rw [List.length_take]at hj
 intro e2
 exact h2 j (by omega) (by rw [ze (by omega),e2])
theorem zkr (l:List UInt8)(h:Lib.indexByte l 47=-1):∀ b∈l,b≠47:=by
 intro b hb e
 obtain⟨j,hj,rfl⟩:=List.getElem_of_mem hb
 exact Lib.indexByte_none h j (by rw [ze hj,e])
theorem zgr:∀ (k:Nat)(l:List UInt8),l.count 47=k→Lib.splitK [47] 0 k l=segsL l:=by
 intro k
 induction k with
 | zero =>
  intro l h
  rw [zce l (fun b hb e=>by subst e;have:=List.count_pos_iff.2 hb;omega)]
  rfl
 | succ k ih =>
  intro l h
  rw [Lib.splitK,Lib.index_one]
  by_cases hm:Lib.indexByte l 47=-1
  ·have:=zkr l hm
   have h0:l.count 47=0:=List.count_eq_zero.2 (fun hb=>this 47 hb rfl)
   omega
  ·have hge:=Lib.index_ge l [47]
   rw [Lib.index_one]at hge
   obtain⟨i,hi⟩:∃ i:Nat,Lib.indexByte l 47=i:=⟨(Lib.indexByte l 47).toNat,by omega⟩
   obtain⟨e,hn⟩:=piece l i hi
   have hc:(l.drop (i+1)).count 47=k:=by
    have h0:(l.take i).count 47=0:=List.count_eq_zero.2 (fun hb=>hn 47 hb rfl)
    rw [e,List.count_append,List.count_cons_self,h0]at h
    omega
   rw [if_neg (by simpa using hm),hi]
   have e1:((i:Int).toNat+0)=i:=by simp
   have e2:((i:Int).toNat+([47]:List UInt8).length)=i+1:=by simp
   rw [e1,e2,ih _ hc]
   conv=>rhs;rw [e]
   rw [ziu _ _ hn]
def segB (s:ByteArray):List ByteArray:=(segsL s.data.toList).map fun l=>⟨l.toArray⟩
theorem ba_ext {a b:ByteArray}(h:a.data.toList=b.data.toList):a=b:=by
 rw [← Lib.mk_data a,← Lib.mk_data b,h]
theorem z5q:∀ {a b:List ByteArray},a.map (·.data.toList)=b.map (·.data.toList)→a=b
 | [],[],_=>rfl
 | [],_::_,h=>by simp at h
 | _::_,[],h=>by simp at h
 | x::a,y::b,h=>by
  rw [List.map_cons,List.map_cons,List.cons.injEq]at h
  rw [ba_ext h.1,z5q h.2]
theorem zis (s:ByteArray):(segB s).map (·.data.toList)=segsL s.data.toList:=by
 unfold segB
 rw [List.map_map]
 conv=>rhs;rw [← List.map_id (segsL s.data.toList)]
 exact List.map_congr_left (fun l _=>rfl)
theorem z93 (s:ByteArray):Lib.splitB ⟨#[47]⟩ 0 (Lib.countB s ⟨#[47]⟩) s=segB s:=by
 apply z5q
 rw [Lib.splitB_data,zis]
 exact zgr _ _ (Lib.count_one 47 _).symm
theorem z8a (s:ByteArray):Lib.countB s ⟨#[47]⟩+1=(segB s).length:=by
 rw [← z93]
 exact(Lib.splitB_all ⟨#[47]⟩ (by decide) 0 _ s rfl).symm
theorem zdt (s:ByteArray):0<(segB s).length:=by rw [← z8a];omega
theorem z5y (l:List UInt8):(segsL l).length≤l.length+1:=by
 induction l with
 | nil=>simp [segsL]
 | cons c r ih =>
  unfold segsL
  split
  ·simp;omega
  ·split
   ·simp
   ·rename_i h t e
    rw [e]at ih;simp at ih ⊢;omega
theorem zf9 (l:List UInt8):∀ x∈segsL l,x.length≤l.length:=by
 induction l with
 | nil=>simp [segsL]
 | cons c r ih =>
  intro x hx
  unfold segsL at hx
  split at hx
  ·rcases List.mem_cons.1 hx with rfl | hx
   ·simp
   ·have:=ih x hx;simp;omega
  ·split at hx
   ·simp at hx;subst hx;simp
   ·rename_i h t e
    rcases List.mem_cons.1 hx with rfl | hx
    ·have:=ih h (by rw [e];simp);simp;omega
    ·have:=ih x (by rw [e];simp [hx]);simp;omega
theorem z7m (s:ByteArray):(segB s).length≤s.size+1:=by
 unfold segB;rw [List.length_map];have:=z5y s.data.toList;rw [← Lib.size_eq]at this;exact this
theorem zit (s:ByteArray):∀ x∈segB s,x.size≤s.size:=by
 intro x hx
 obtain⟨l,hl,rfl⟩:=List.mem_map.1 hx
 have:=zf9 _ l hl
 rw [Lib.size_eq,Lib.size_eq s]
 simpa using this
def lastB (s:ByteArray):ByteArray:=(segB s).getD ((segB s).length - 1) ByteArray.empty
theorem zbf (s:ByteArray):lastB s∈segB s:=by
 have:=zdt s
 unfold lastB
 rw [zg,ze (by omega)]
 exact List.getElem_mem _
def segOk (x:ByteArray):Bool:=nameS x&&allZ pathZ x
def pathOk (s:ByteArray):Bool:=decide (s.size≤64)&&(decide (2≤(segB s).length)&&(verOk (lastB s)&&(segB s).all segOk))
def majN (s:ByteArray):Int:=if pathOk s then verN (lastB s) else 0
def majE (s:ByteArray):Int:=if pathOk s then 0 else 4
section
open Go.Proofs.Tryz Go Go.RowKit
theorem zh1 (s:ByteArray)(w:World)(hs:s.size<4294967281)(hm:MaxOk w) :
  Calls prog 191 #[.string s,.string ⟨#[47]⟩] w fun e w'=>e=.returned (.slice (some ⟨w.heap.size,0,none⟩) (segB s).length (segB s).length)∧w.alloc (.cells ((segB s).map Value.string).toArray 9)=w':=by
 obtain⟨m,hm⟩:=hm
 refine(Tryz.strings_Split s ⟨#[47]⟩ m w hs hm (by decide)).mono ?_
 rintro e w' ⟨rfl,rfl⟩
 rw [z8a,z93]
 exact⟨rfl,rfl⟩
theorem z6h (s:ByteArray)(w:World)(hs:s.size≤1000000)(hm:MaxOk w) :
  Calls prog 182 #[.string s] w fun e w'=>e=.returned (.tuple #[.int .i64 (majN s),.int .i64 (majE s)])∧Below w.heap.size w w':=by
 have hne:=zdt s
 have hln:=z7m s
 have hcell:(w.alloc (.cells ((segB s).map Value.string).toArray 9)).cell? ⟨w.heap.size,0+((segB s).length - 1),none⟩=some (.string (lastB s)):=z6s w (segB s) _ _ (by omega)
 have hcells:=fun i (hi:i<(segB s).length)=>z6s w (segB s) 9 i hi
 have hsz:=zit s
 have hll:=hsz _ (zbf s)
 have hm1:=hm.alloc (.cells ((segB s).map Value.string).toArray 9)
 have hbl:Below w.heap.size w (w.alloc (.cells ((segB s).map Value.string).toArray 9)):=(Below.refl _ w).alloc (zq _) _
 have HP:Hid (pathOk s=(decide (s.size≤64)&&(decide (2≤(segB s).length)&&(verOk (lastB s)&&(segB s).all segOk)))):=zh rfl
 have HN:Hid (majN s=if pathOk s then verN (lastB s) else 0):=zh rfl
 have HE:Hid (majE s=if pathOk s then 0 else 4):=zh rfl
 have HS:=zh (zh1 s w (by omega) hm)
 generalize (w.alloc (.cells ((segB s).map Value.string).toArray 9))=w1 at *
 generalize lastB s=lb at *
 generalize segB s=sg at *
 have hnum:sg.length≤1000001:=by omega
 have H1:=zh hcells
 have H2:=zh hsz
 clear hcells hsz
 simp only [Nat.zero_add]at hcell
 have hlb:lb.size≤140737488351232:=by omega
 cases h1:verOk lb
 case false =>
  have HT:Hid (pathOk s=false):=zh (by rw [HP.out,h1];simp)
  go_enter func182,ntmps182
  go_wp2_with fail
  refine HS.out.mono ?_
  rintro e w' ⟨rfl,rfl⟩
  go_wp2_with (go_at_call 192;refine(z38 _ _ hlb).mono ?_;rintro e w' ⟨rfl,rfl⟩)
  go_ret2
  exact⟨z3n (by rw [HN.out,HT.out];rfl) (by rw [HE.out,HT.out];rfl),hbl⟩
 by_cases h2:s.size≤64
 case neg =>
  have HT:Hid (pathOk s=false):=zh (by rw [HP.out,decide_eq_false h2];rfl)
  go_enter func182,ntmps182
  go_wp2_with fail
  refine HS.out.mono ?_
  rintro e w' ⟨rfl,rfl⟩
  go_wp2_with (go_at_call 192;refine(z38 _ _ hlb).mono ?_;rintro e w' ⟨rfl,rfl⟩)
  go_ret2
  exact⟨z3n (by rw [HN.out,HT.out];rfl) (by rw [HE.out,HT.out];rfl),hbl⟩
 by_cases h3:2≤sg.length
 case neg =>
  have HT:Hid (pathOk s=false):=zh (by rw [HP.out,decide_eq_false h3];simp)
  go_enter func182,ntmps182
  go_wp2_with fail
  refine HS.out.mono ?_
  rintro e w' ⟨rfl,rfl⟩
  go_wp2_with (go_at_call 192;refine(z38 _ _ hlb).mono ?_;rintro e w' ⟨rfl,rfl⟩)
  go_ret2
  exact⟨z3n (by rw [HN.out,HT.out];rfl) (by rw [HE.out,HT.out];rfl),hbl⟩
 have HT:Hid (pathOk s=sg.all segOk):=zh (by rw [HP.out,decide_eq_true h2,decide_eq_true h3,h1];rfl)
 go_enter func182,ntmps182
 go_wp2_with fail
 refine HS.out.mono ?_
 rintro e w' ⟨rfl,rfl⟩
 go_wp2_with (go_at_call 192;refine(z38 _ _ hlb).mono ?_;rintro e w' ⟨rfl,rfl⟩)
 go_loop [35] (fun i=>∃ k:Nat,k≤sg.length∧i=.int .i64 k∧Hid ((sg.take k).all segOk=true)) (fun i=>sg.length - (intOf i).toNat)
 case atStart=>exact⟨0,Nat.zero_le _,rfl,zh rfl⟩
 case round =>
  obtain⟨k,hk,rfl,HA⟩:=hrel
  by_cases hlt:k<sg.length
  ·obtain⟨x,hx⟩:∃ x,x=sg.getD k ByteArray.empty:=⟨_,rfl⟩
   have hg:sg.getD k ByteArray.empty=sg[k]:=by simp [hlt]
   have hck:w1.cell? ⟨w.heap.size,k,none⟩=some (.string x):=by rw [hx];simpa using H1.out k hlt
   have hxs:x.size≤s.size:=by rw [hx,hg];exact H2.out _ (List.getElem_mem hlt)
   have hxm:x.size≤maxLen:=by unfold maxLen;omega
   have HX:Hid (x=sg[k]):=zh (by rw [hx,hg])
   clear hx hg
   cases h4:nameS x
   ·have HF:Hid (pathOk s=false):=zh (by
     rw [HT.out,List.all_eq_false]
     exact⟨sg[k],List.getElem_mem hlt,by rw [← HX.out,segOk,h4];exact Bool.false_ne_true⟩)
    go_wp2_with (first | (go_at_call 193;refine(z55 _ _ hxm hm1).mono ?_;rintro e w' ⟨rfl,rfl⟩) | (go_at_call 194;refine(z6l _ _ hxm).mono ?_;rintro e w' ⟨rfl,rfl⟩))
    go_ret2
    exact⟨z3n (by rw [HN.out,HF.out];rfl) (by rw [HE.out,HF.out];rfl),hbl⟩
   ·cases h5:allZ pathZ x
    ·have HF:Hid (pathOk s=false):=zh (by
      rw [HT.out,List.all_eq_false]
      exact⟨sg[k],List.getElem_mem hlt,by rw [← HX.out,segOk,h4,h5];exact Bool.false_ne_true⟩)
     go_wp2_with (first | (go_at_call 193;refine(z55 _ _ hxm hm1).mono ?_;rintro e w' ⟨rfl,rfl⟩) | (go_at_call 194;refine(z6l _ _ hxm).mono ?_;rintro e w' ⟨rfl,rfl⟩))
     go_ret2
     exact⟨z3n (by rw [HN.out,HF.out];rfl) (by rw [HE.out,HF.out];rfl),hbl⟩
    ·have HO:Hid ((sg.take (k+1)).all segOk=true):=zh (by
      rw [zs hlt,List.all_append,HA.out,← HX.out]
      simp [segOk,h4,h5])
     go_wp2_with (first | (go_at_call 193;refine(z55 _ _ hxm hm1).mono ?_;rintro e w' ⟨rfl,rfl⟩) | (go_at_call 194;refine(z6l _ _ hxm).mono ?_;rintro e w' ⟨rfl,rfl⟩))
     go_round
     case rel=>exact⟨k+1,by omega,by go_num,HO⟩
     case measure=>simp [intOf];omega
  ·obtain rfl:k=sg.length:=by omega
   have HO:Hid (pathOk s=true):=zh (by rw [HT.out];have:=HA.out;rwa [List.take_length]at this)
   go_wp2
   go_ret2
   exact⟨z3n (by rw [HN.out,HO.out];simp only [verN,h1,if_true]) (by rw [HE.out,HO.out];rfl),hbl⟩
theorem z83 (s:ByteArray)(w:World)(hs:s.size≤1000000)(hm:MaxOk w) :
  Calls prog 183 #[.string s] w fun e w'=>e=.returned (.bool (pathOk s))∧Below w.heap.size w w':=by
 have HE:Hid (majE s=if pathOk s then 0 else 4):=zh rfl
 cases h:pathOk s
 all_goals
  rw [h]at HE
  simp only [Bool.false_eq_true,if_false,if_true]at HE
  go_enter func183,ntmps183
  go_wp2_with fail
  refine(z6h s w hs hm).mono ?_
  rintro e w' ⟨rfl,hb⟩
  rw [HE.out]
  go_wp2
  go_ret
  exact⟨rfl,hb⟩
end
section
open Go.Proofs.Tryz Go Go.RowKit
def slashI (s:ByteArray):Int:=Lib.lastIndexByte s 47
theorem zgk (l:List UInt8)(h:∀ b∈l,b≠47):(segsL l).length=1:=by rw [zce l h];rfl
theorem z90 (s:ByteArray)(h:pathOk s=true):∃ i:Nat,slashI s=i∧i<s.size∧s.data.toList[i]? = some 47∧∀ j,i<j→s.data.toList[j]?≠some 47:=by
 have ebang:∀ j,j<s.size→s.data.toList[j]? = some (s.data[j]!):=fun j hj=>by
  have h1:j<s.data.toList.length:=by rw [← Lib.size_eq];exact hj
  have h2:j<s.data.size:=hj
  rw [ze h1,getElem!_pos s.data j h2,Array.getElem_toList]
 have h47:∀ j,j<s.size→(((s.data[j]!).toNat:Int)=47 ↔ s.data.toList[j]? = some 47):=fun j hj=>by
  rw [ebang j hj]
  constructor
  ·intro e
   have:s.data[j]! = 47:=UInt8.toNat_inj.1 (by have:(47:UInt8).toNat=47:=rfl;omega)
   rw [this]
  ·intro e
   rw [Option.some.inj e];rfl
 rcases Lib.lastIndexByte_spec s 47 with ⟨_,hn⟩ | ⟨i,hi,e,hc,hn⟩
 ·exfalso
  unfold pathOk at h
  simp only [Bool.and_eq_true,decide_eq_true_eq]at h
  have h2:=h.2.1
  unfold segB at h2
  rw [List.length_map,zgk]at h2
  ·omega
  ·intro b hb e
   subst e
   obtain⟨j,hj,he⟩:=List.getElem_of_mem hb
   have hj2:j<s.size:=by rw [Lib.size_eq];exact hj
   exact hn j hj2 ((h47 j hj2).2 (by rw [ze hj,he]))
 ·refine⟨i,e,hi,(h47 i hi).1 hc,fun j hj he=>?_⟩
  have hj2:j<s.size:=by
   have:=(zc he)
   rw [Lib.size_eq];exact this
  exact hn j hj hj2 ((h47 j hj2).2 he)
def lineV (s:ByteArray):ByteArray×Int×Int:=if pathOk s then(s.extract 0 (slashI s).toNat,majN s,0) else(⟨#[]⟩,0,4)
theorem z9g (s:ByteArray)(w:World)(hs:s.size≤1000000):Calls prog 184 #[.string s,.string ⟨#[47]⟩] w fun e w'=>e=.returned (.int .i64 (slashI s))∧w=w' :=
 flip (Tryz.strings_LastIndex_one s ⟨#[47]⟩ rfl (by omega) w)
theorem ze4 (s:ByteArray)(w:World)(hs:s.size≤1000000)(hm:MaxOk w):Calls prog 167 #[.string s] w fun e w' =>
  e=.returned (.tuple #[.string (lineV s).1,.int .i64 (lineV s).2.1,.int .i64 (lineV s).2.2])∧Below w.heap.size w w':=by
 cases hp:pathOk s with
 | false =>
  have HE:=zh (show lineV s=(⟨#[]⟩,0,4) by unfold lineV;rw [hp];rfl)
  have HM:=zh (show majE s=4 by unfold majE;rw [hp];rfl)
  rw [HE.out]
  have HP:=zh hp
  clear hp
  go_enter func167,ntmps167
  go_wp2_with fail
  refine(z6h s w hs hm).mono ?_
  rintro e w1 ⟨rfl,hb1⟩
  have hm1:=hm.below hb1 hm.pos
  have HB1:=zh hb1
  clear hb1
  go_wp2_with fail
  refine(z83 s w1 hs hm1).mono ?_
  rintro e w2 ⟨rfl,hb2⟩
  have HB2:Hid (Below w.heap.size w w2):=zh (HB1.out.trans (hb2.mono HB1.out.size))
  rw [HP.out]
  clear hb2
  go_wp2_with fail
  go_ret3
  exact⟨rfl,HB2.out⟩
 | true =>
  obtain⟨i,hi1,hi2,hi3,hi4⟩:=z90 s hp
  obtain⟨hd,hhd⟩:∃ hd,s.extract 0 i=hd:=⟨_,rfl⟩
  have HE:=zh (show lineV s=(hd,majN s,0) by unfold lineV;rw [hp,hi1,← hhd];rfl)
  have HM:=zh (show majE s=0 by unfold majE;rw [hp];rfl)
  have HL:=zh (fun W=>z9g s W hs)
  rw [hi1]at HL
  rw [HE.out]
  have HP:=zh hp
  have HH:=zh hhd
  have g1:(0:Int)≤(i:Int):=by omega
  have g2:(i:Int)≤s.size:=by omega
  have g3:i≤s.size:=by omega
  clear hp hi1 hi3 hi4 hhd
  go_enter func167,ntmps167
  go_wp2_with fail
  refine(z6h s w hs hm).mono ?_
  rintro e w1 ⟨rfl,hb1⟩
  rw [HM.out]
  have hm1:=hm.below hb1 hm.pos
  have HB1:=zh hb1
  clear hb1
  go_wp2_with fail
  refine(z83 s w1 hs hm1).mono ?_
  rintro e w2 ⟨rfl,hb2⟩
  have HB2:Hid (Below w.heap.size w w2):=zh (HB1.out.trans (hb2.mono HB1.out.size))
  rw [HP.out]
  clear hb2
  go_wp2_with fail
  (with_reducible refine(HL.out _).mono ?_)
  rintro e w3 ⟨rfl,rfl⟩
  go_wp2_with fail
  go_ret3
  exact⟨by rw [← HH.out];rfl,HB2.out⟩
def pathB (s:ByteArray)(m:Int):ByteArray:=s++⟨#[47,118]⟩++⟨(decL m).toArray⟩
def pathV (s:ByteArray)(m:Int):ByteArray×Int:=if partB m=true then if pathOk (pathB s m)=true then(pathB s m,0) else(⟨#[]⟩,4) else(⟨#[]⟩,2)
end
abbrev ReqL:=ByteArray×List (Int×Int)
abbrev SelL:=ByteArray×(Int×Int×Int)
structure RelL where
 path:ByteArray
 ver:Int×Int×Int
 reqs:List ReqL
 ar:ByteArray
 ifc:ByteArray
 cert:ByteArray
 yk:Bool
instance:Inhabited RelL:=⟨⟨⟨#[]⟩,(0,0,0),[],⟨#[]⟩,⟨#[]⟩,⟨#[]⟩,false⟩⟩
def ltB (a b:ByteArray):Bool:=Op.bytesLess a.toList b.toList
def firstE (n:Nat)(f:Nat→Int):Int:=(((List.range n).map f).find? fun e=>decide (e≠0)).getD 0
theorem z18 {n:Nat}{f:Nat→Int}{k:Nat}(hk:k<n)(h:∀ j,j<k→f j=0)(h2:f k≠0):firstE n f=f k:=by
 unfold firstE
 have e:(List.range n).map f=(List.range k).map f++(f k::((List.range n).drop (k+1)).map f):=by
  have e1:List.range n=List.range k++(k::(List.range n).drop (k+1)):=by
   have h1:(List.range n).take k=List.range k:=by rw [List.take_range,Nat.min_eq_left (Nat.le_of_lt hk)]
   conv=>lhs;rw [← List.take_append_drop k (List.range n),h1,List.drop_eq_getElem_cons (by simpa using hk)]
   simp
  conv=>lhs;rw [e1]
  rw [List.map_append,List.map_cons]
 have:((List.range n).map f).find? (fun e=>decide (e≠0))=some (f k):=by
  rw [List.find?_eq_some_iff_append]
  refine⟨by simpa using h2,(List.range k).map f,_,e,fun a ha=>?_⟩
  obtain⟨j,hj,rfl⟩:=List.mem_map.1 ha
  simp [h j (List.mem_range.1 hj)]
 rw [this]
 rfl
theorem z2y {n:Nat}{f:Nat→Int}(h:∀ j,j<n→f j=0):firstE n f=0:=by
 unfold firstE
 have:((List.range n).map f).find? (fun e=>decide (e≠0))=none:=List.find?_eq_none.2 fun a ha=>by
  obtain⟨j,hj,rfl⟩:=List.mem_map.1 ha
  simp [h j (List.mem_range.1 hj)]
 rw [this]
 rfl
theorem z47 {n:Nat}{f:Nat→Int}(h:firstE n f=0):∀ j,j<n→f j=0:=by
 intro j
 induction j using Nat.strongRecOn with
 | _ j ih =>
  intro hj
  by_cases h2:f j=0
  ·exact h2
  ·rw [z18 hj (fun i hi=>ih i hi (by omega)) h2]at h
   exact absurd h h2
def reqE (q:ReqL)(before:Option ByteArray):Int :=
 if (lineV q.1).2.2≠0 then 4 else if q.2=[]∨q.2≠canon q.2 then 1 else match before with
  | none=>0
  | some b=>if ltB b q.1=true then 0 else 1
def beforeQ (l:List ReqL)(k:Nat):Option ByteArray:=if k=0 then none else some (l.getD (k - 1) default).1
def checkReqs (l:List ReqL):Int:=if 16<l.length then 7 else firstE l.length fun k=>reqE (l.getD k default) (beforeQ l k)
def digB (s:ByteArray):Bool:=decide (s.size=0)||decide (s.size=32)
def relE (r:RelL):Int :=
 if (lineV r.path).2.2≠0 then 4
 else if (validB r.ver.1 r.ver.2.1 r.ver.2.2&&decide (r.ver.1=(lineV r.path).2.1))=false then 2
 else if checkReqs r.reqs≠0 then checkReqs r.reqs
 else if (digB r.ar&&(digB r.ifc&&digB r.cert))=true then 0 else 1
def cmpS (a b:ByteArray):Int:=if ltB a b=true then -1 else if ltB b a=true then 1 else 0
def cmpR (a b:RelL):Int:=if cmpS a.path b.path≠0 then cmpS a.path b.path else cmpV a.ver.1 a.ver.2.1 a.ver.2.2 b.ver.1 b.ver.2.1 b.ver.2.2
def keyL (r:RelL):SelL:=(r.path,r.ver)
def relE2 (b r:RelL):Int:=if keyL b=keyL r then 5 else if 0<cmpR b r then 1 else 0
def idxErr (X:List RelL)(k:Nat):Int:=if relE (X.getD k default)≠0 then relE (X.getD k default) else if k=0 then 0 else relE2 (X.getD (k - 1) default) (X.getD k default)
def checkX (X:List RelL):Int:=if 256<X.length then 7 else firstE X.length (idxErr X)
def findR (X:List RelL)(y:SelL):Option RelL:=X.find? fun r=>decide (keyL r=y)
def incrS (s:List SelL):Prop:=s.Pairwise fun a b=>ltB a.1 b.1=true
section
open Go.Proofs.Tryz Go Go.RowKit
def calmOps (ops:Array Oper):Bool:=ops.all fun o=>match o.op with | .defer _=>false | _=>true
theorem zao {ops:Array Oper}(h:calmOps ops=true){j:Nat}{o:Oper}(ho:ops[j]? = some o)(c:_):o.op≠.defer c:=fun e=>by
 unfold calmOps at h
 rw [Array.all_eq_true']at h
 have:=h o (Array.mem_of_getElem? ho)
 rw [e]at this
 cases this
theorem zg8 {P:Program}{l n:Nat}{o:Oper}{a:Act}{w:World}{K K':Act→World→Prop}{Q:Exit→Act→World→Prop}(hd:∀ c,o.op≠.defer c)
  (hK:∀ a w,K a w→K' a w) (h:o.wp P a w K Q):o.wpIn (Fence.wide.inRound l) n P a w K' Q:=by
 refine⟨fun _ _=>trivial,?_⟩
 rw [Oper.semAt_eq _ _ _ hd]
 unfold Oper.wp at h
 generalize (execOp a.eval o).run P w=r at *
 cases r with
 | ok x w' =>
  cases x<;>simp only [Oper.upon,Oper.uponIn]at h ⊢
  case value v=>exact hK _ _ h
  case skip=>exact hK _ _ h
  case defer d=>exact hK _ _ h
  case enter f args =>
   refine⟨fun h=>(by cases h),?_⟩
   refine CallsIn.inRound l (callsIn_wide.2 (h.mono ?_))
   intro e w'' he
   cases e with
   | returned v=>exact hK _ _ he
   | panicked c=>exact he
   | outgrown=>exact he
  case row r args =>
   refine⟨fun h=>(by cases h),?_⟩
   intro c cs _
   obtain⟨v,w'',hv,hs⟩:=h c cs
   exact⟨v,w'',hK _ _ hv,stepsIn_wide.2 hs⟩
 | halt x w' =>
  cases x<;>simp only [Oper.upon,Oper.uponIn]at h ⊢<;>exact h
theorem zks {P:Program}{l n:Nat}{ops:Array Oper}{Q:Exit→Act→World→Prop}{i:Nat}{a:Act}{w:World}{K K':Act→World→Prop}(hd:calmOps ops=true)(hQ:∀ a w,¬ Q .outgrown a w)
  (hK:∀ a w,K a w→K' a w) (h:wpOp P ops Q i K a w):wpOpIn (Fence.wide.inRound l) n P ops Q i K' a w:=by
 unfold wpOp at h
 unfold wpOpIn
 cases ho:ops[i]? with
 | none=>simp only [ho]at h ⊢;exact hK _ _ h
 | some o =>
  simp only [ho]at h ⊢
  by_cases hw:Region.wanted o (yielded ops a.tmps)=true
  ·rw [if_pos hw]at h ⊢
   rcases h with h | ⟨_,a0,w0,h⟩
   ·exact zg8 (zao hd ho) hK h
   ·exact absurd h (hQ _ _)
  ·rw [if_neg hw]at h ⊢
   exact⟨fun _ _=>trivial,hK _ _ h⟩
theorem zal {P:Program}{l n:Nat}{md:Region.Mode}{ops:Array Oper}{Q:Exit→Act→World→Prop}(hd:calmOps ops=true)(hQ:∀ a w,¬ Q .outgrown a w) :
  ∀ (fuel:Nat) (listed:Array Bool) (a:Act) (w:World),wpAny P md ops Q fuel listed a w→wpAnyIn (Fence.wide.inRound l) n P md ops Q fuel listed a w
 | 0,_,_,_,h=>h
 | fuel+1,listed,a,w,h=>⟨h.1,fun i hi=>zks hd hQ (fun a w h=>zal hd hQ fuel _ a w h) (h.2 i hi)⟩
theorem ze2 {P:Program}{ops:Array Oper}{w:World}{Q:Act→Prop}{a:Act}{o:Oper}{rest:List Oper}(hw:Region.wanted o (yielded ops a.tmps)=true)(h:∀ K:Act→Prop,(∀ a,wpStill P ops w Q rest a→K a)→o.still P a w K):wpStill P ops w Q (o::rest) a:=by
 refine wpStill_step fun K hK=>?_
 rw [hw]
 exact h K hK
theorem z5u {P:Program}{l n id:Nat}{ops:Array Oper}{Q:Exit→Act→World→Prop}{a:Act}{w:World}(hm:P.follows .mixedOrders=true)(hd:calmOps ops=true)(hQ:∀ a w,¬ Q .outgrown a w)
  (h:wpAny P .any ops Q ops.size (Array.replicate ops.size false) a w.drew):(Code.region id ops true).wpIn (Fence.wide.inRound l) n P Q a w :=
 wpIn_region_any hm (zal hd hQ _ _ _ _ h)
theorem z2s {P:Program}{l n id:Nat}{Q:Exit→Act→World→Prop}{a:Act}{w:World}{lo:List Oper}(k:Nat)(hm:P.follows .mixedOrders=true)(hd:calmOps lo.toArray=true)(hQ:∀ a w,¬ Q .outgrown a w)
  (hB:Region.lexTailB .any lo.toArray k=true)
  (h:wpStill P lo.toArray w.drew (fun a'=>wpList P lo.toArray Q (lo.drop k) a' w.drew) (lo.take k) a):(Code.region id lo.toArray true).wpIn (Fence.wide.inRound l) n P Q a w:=by
 refine z5u hm hd hQ ?_
 simp only [Region.lexTailB,Bool.and_eq_true,decide_eq_true_eq]at hB
 obtain⟨⟨⟨⟨hsel,hn⟩,hs⟩,hc⟩,hlex⟩:=hB
 have hn':k<lo.length:=by simpa using hn
 have htl:(lo.take k).length=k:=by simp;omega
 have hdl:(lo.drop k).length=lo.toArray.size - k:=by simp
 have inv0:HeadInv .any lo.toArray k (Array.replicate lo.toArray.size false) :=
  ⟨by simp,fun j oj _ hl=>(by rw [getD_replicate_false]at hl;cases hl),fun t _ ht=>getD_in (by simpa using ht) (getD_replicate_false _ _)⟩
 have H:=wpAnyL_lex (md:=.any) (g:=lo.toArray.size - k) hsel hs hc hn (lo.take k) 0 _ a (fun j hj=>by
  have hj':j<k:=by rw [htl]at hj;exact hj
  simp [hj']) (by simpa using htl) inv0 (by rw [htl];exact hlex) h
 have:=wpAny_of_head (Q':=Q) (g:=lo.toArray.size - k) (fun listed a' hL=>by
  have:=wpAny_of_seq (md:=.any) (Q':=Q) (lo.drop k) k listed a' w.drew (fun j=>by simp [List.getElem?_drop]) (by rw [hdl];exact hL.1) hL.2
  rwa [hdl]at this) _ _ _ H
 rw [htl,show k+(lo.toArray.size - k)=lo.toArray.size by omega]at this
 exact this
structure Sealed (P:Program)(ops:Array Oper)(w:World)(Q:Act→Prop)(l:List Oper)(a:Act):Prop where
 out:wpStill P ops w Q l a
theorem zf7 {P:Program}{ops:Array Oper}{w:World}{Q:Act→Prop}{a:Act}(h:Q a):Sealed P ops w Q [] a:=⟨wpStill_nil h⟩
theorem zf8 {P:Program}{ops:Array Oper}{w:World}{Q:Act→Prop}{a:Act}{o:Oper}{rest:List Oper}(hw:Region.wanted o (yielded ops a.tmps)=true)(h:∀ K:Act→Prop,(∀ a,Sealed P ops w Q rest a→K a)→o.still P a w K):Sealed P ops w Q (o::rest) a :=
 ⟨ze2 hw fun K hK=>h K fun a ha=>hK a ha.out⟩
def HeldC (a b:Addr)(x y:Value)(W:World):Prop:=W.cell? a=some x∧W.cell? b=some y
def HeldR (a b c:Addr)(x y z:Value)(W:World):Prop:=W.cell? a=some x∧W.cell? b=some y∧W.cell? c=some z
def HeldS (a b c d e f:Addr)(x y z u v q:Value)(W:World):Prop:=W.cell? a=some x∧W.cell? b=some y∧W.cell? c=some z∧W.cell? d=some u∧W.cell? e=some v∧W.cell? f=some q
end
section
open Go.Proofs.Tryz Go Go.RowKit
theorem cellA {W:World}{a:Addr}{v:Value}(o:Obj)(h:W.cell? a=some v):(W.alloc o).cell? a=some v:=cell_kept h (World.grownBy_alloc W o none) (fun r e=>by cases e)
theorem frozA {W:World}{a:Addr}{v:Value}(o:Obj)(h:W.cell? a=some v)(hf:W.frozen? a=false):(W.alloc o).frozen? a=false:=(frozen_kept h (World.grownBy_alloc W o none) (fun r e=>by cases e)).trans hf
theorem grownD {w w':World}{row:Option Nat}(h:w.grownBy w' row):w.grownBy w'.drew row:=⟨h.os,h.tape,h.output,h.size,h.block⟩
theorem zeb {W W':World}{row:Option Nat}{b t:Nat}{cs:Array Value}{f:Nat×Nat}(h:W.heap[b]? = some (.cells cs t f))(hg:W.grownBy W' row)(hr:∀ r,row=some r→∃ o:Obj,W.heap[r]? = some o∧o.isCells=false):W'.heap[b]? = some (.cells cs t f) :=
 (hg.block b (zb h) (fun e=>by obtain⟨o,ho,hc⟩:=hr b e.symm;rw [h]at ho;cases ho;cases hc)).trans h
abbrev natC (k:Nat):Value:=.int .i64 (k:Int)
def RowOf {α:Type}(enc:α→Value)(B:Nat)(v:Value)(l:List α)(W:World):Prop :=
 (l=[]∧∃ a c,v=.slice a 0 c)∨∃ b off cap,v=.slice (some ⟨b,off,none⟩) l.length cap∧b<B∧∀ i x,l[i]? = some x→W.cell? ⟨b,off+i,none⟩=some (enc x)
def RowsOf (B:Nat)(v:Value)(S:List (List Nat))(W:World):Prop :=
 (S=[]∧∃ a c,v=.slice a 0 c)∨∃ b off cap,v=.slice (some ⟨b,off,none⟩) S.length cap∧b<B∧∀ i l,S[i]? = some l→∃ r,W.cell? ⟨b,off+i,none⟩=some r∧RowOf natC B r l W
theorem RowOf.below {α:Type}{enc:α→Value}{B B':Nat}{v:Value}{l:List α}{W W':World}(h:RowOf enc B v l W)(hb:Below B' W W')(hB:B≤B'):RowOf enc B v l W':=by
 rcases h with h | ⟨b,off,cap,h1,h2,h3⟩
 ·exact .inl h
 ·exact .inr ⟨b,off,cap,h1,h2,fun i x hx=>(hb.cell (p:=⟨b,off+i,none⟩) (by simp;omega)).trans (h3 i x hx)⟩
theorem RowOf.mono {α:Type}{enc:α→Value}{B B':Nat}{v:Value}{l:List α}{W:World}(h:RowOf enc B v l W)(hB:B≤B'):RowOf enc B' v l W:=by
 rcases h with h | ⟨b,off,cap,h1,h2,h3⟩
 ·exact .inl h
 ·exact .inr ⟨b,off,cap,h1,by omega,h3⟩
theorem RowsOf.below {B B':Nat}{v:Value}{S:List (List Nat)}{W W':World}(h:RowsOf B v S W)(hb:Below B' W W')(hB:B≤B'):RowsOf B v S W':=by
 rcases h with h | ⟨b,off,cap,h1,h2,h3⟩
 ·exact .inl h
 ·refine .inr ⟨b,off,cap,h1,h2,fun i x hx=>?_⟩
  obtain⟨r,hr,hl⟩:=h3 i x hx
  exact⟨r,(hb.cell (p:=⟨b,off+i,none⟩) (by simp;omega)).trans hr,hl.below hb hB⟩
theorem RowsOf.mono {B B':Nat}{v:Value}{S:List (List Nat)}{W:World}(h:RowsOf B v S W)(hB:B≤B'):RowsOf B' v S W:=by
 rcases h with h | ⟨b,off,cap,h1,h2,h3⟩
 ·exact .inl h
 ·refine .inr ⟨b,off,cap,h1,by omega,fun i x hx=>?_⟩
  obtain⟨r,hr,hl⟩:=h3 i x hx
  exact⟨r,hr,hl.mono hB⟩
def ofL (S:List (List Nat))(node least:Nat):List Nat:=(S.getD node []).filter (fun k=>decide (least≤k))
def KpB (Bn B0:Nat)(W W':World):Prop:=W'.heap[Bn]? = W.heap[Bn]?∧Below B0 W W'
theorem kpB_t {Bn B0:Nat}{A B C:World}(h:KpB Bn B0 A B)(k:KpB Bn B0 B C):KpB Bn B0 A C:=⟨k.1.trans h.1,h.2.trans k.2⟩
theorem kpB_b {Bn B0:Nat}{w:World}(hn:B0≤w.heap.size)(hBn:Bn<w.heap.size)(W:World)(l:Nat)(o o':Obj)(hl:w.heap.size≤l)(h:W.heap[l]? = some o)(h1:o.isCells=false)(h2:o.isWalk=false):KpB Bn B0 W (W.putObj l o') :=
 ⟨World.putObj_heap_other (by omega),belowK_b hn W l o o' hl h h1 h2⟩
attribute [local go_sem] Oper.semAt_some
theorem of_in (n:Nat)(v:Value)(node least:Int)(w:World)(hv:v.oneCell'=true) :
  CallsIn Fence.wide n prog 94 #[v,.int .i64 node,.int .i64 least] w fun e w' =>
   e=.returned (.func (.func 126) #[] #[.pointer (some ⟨w.heap.size,0,none⟩),.pointer (some ⟨w.heap.size+1,0,none⟩),.pointer (some ⟨w.heap.size+1+1,0,none⟩)]) ∧
   w'=((w.alloc (.cells #[v] 111)).alloc (.cells #[.int .i64 node] 3)).alloc (.cells #[.int .i64 least] 3):=by
 refine callsIn_of_wp func94 rfl trivial ?_ rfl
 simp only [ntmps94,List.size_toArray,List.length_cons,List.length_nil,Nat.reduceAdd,Nat.reduceSub,Array.replicate_succ,Array.replicate_zero,List.push_toArray,List.append_toArray,List.nil_append,List.cons_append]
 cases v<;>first | (simp [Value.oneCell']at hv;done) | skip
 all_goals
  gi_wp2
  go_ret
  exact⟨rfl,rfl⟩
end
section
open Go.Proofs.Tryz Go Go.RowKit
abbrev intC (x:Int):Value:=.int .i64 x
theorem z3l {W:World}{B B' e e' n n' s s':Nat}{v v':Value}{xs xs':List Value}(h:W.ownsRow B e s v n xs)(h':W.ownsRow B' e' s' v' n' xs')(he:e≠e'):v.ownBlock=none∨v.ownBlock≠v'.ownBlock:=by
 rcases h.2 with ⟨rfl,_⟩ | ⟨g,cap,cur,rfl,_,hg,_⟩
 ·exact .inl rfl
 ·right
  rcases h'.2 with ⟨rfl,_⟩ | ⟨g',cap',cur',rfl,_,hg',_⟩
  ·simp [Value.ownBlock]
  ·intro h3
   simp [Value.ownBlock]at h3
   subst h3
   rw [hg]at hg'
   simp at hg'
   exact he hg'.2
theorem z6q {W:World}{b B e s n t:Nat}{cs:Array Value}{f:Nat×Nat}{v:Value}{xs:List Value}(hb:W.heap[b]? = some (.cells cs t f))(h:W.ownsRow B e s v n xs)(ht:t≠e):some b≠v.ownBlock:=by
 rcases h.2 with ⟨rfl,_⟩ | ⟨g,cap,cur,rfl,_,hg,_⟩
 ·simp [Value.ownBlock]
 ·intro h3
  simp [Value.ownBlock]at h3
  subst h3
  rw [hb]at hg
  simp at hg
  exact ht hg.2.1
theorem z1p {W W':World}{B e n s:Nat}{v:Value}{xs:List Value}(h:W.ownsRow B e s v n xs)(hk:∀ k,v.ownBlock=some k→W'.heap[k]? = W.heap[k]?):W'.ownsRow B e s v n xs:=by
 refine⟨h.1,?_⟩
 rcases h.2 with h2 | ⟨g,cap,cur,rfl,hb,hg,r⟩
 ·exact .inl h2
 ·exact .inr ⟨g,cap,cur,rfl,hb,(hk g rfl).trans hg,r⟩
theorem z0o {W:World}{B e n g cap:Nat}{xs:List Value}(h:W.ownsRow B e 1 (.slice (some ⟨g,0,none⟩) n cap) n xs)(i:Nat)(x:Value)(hx:xs[i]? = some x):W.cell? ⟨g,i,none⟩=some x:=by
 have hl:=h.1
 have hi:i<xs.length:=(zc hx)
 rw [h.cellAt i (by omega),hx]
theorem z1a {W:World}{B e n:Nat}{v:Value}{xs:List Value}(h:W.ownsRow B e 1 v n xs)(hn:0<n):∃ g cap,v=.slice (some ⟨g,0,none⟩) n cap∧B≤g∧g<W.heap.size∧n≤cap:=by
 rcases h.2 with ⟨_,h0⟩ | ⟨g,cap,cur,hv,hb,hg,hc,_⟩
 ·omega
 ·exact⟨g,cap,hv,hb,(zb hg),hc⟩
theorem z29 {α:Type}{enc:α→Value}{W:World}{B e n:Nat}{v:Value}{l:List α}(h:W.ownsRow B e 1 v n (l.map enc)):n=l.length∧RowOf enc W.heap.size v l W:=by
 have hl:n=l.length:=by have:=h.1;simp at this;omega
 subst hl
 refine⟨rfl,?_⟩
 rcases h.2 with ⟨rfl,h0⟩ | ⟨g,cap,cur,rfl,hb,hg,hc,_⟩
 ·exact .inl ⟨List.length_eq_zero_iff.1 h0,_,_,rfl⟩
 ·refine .inr ⟨g,0,cap,rfl,(zb hg),fun i x hx=>?_⟩
  rw [Nat.zero_add]
  exact z0o h i _ (by rw [List.getElem?_map,hx];rfl)
structure Grid (B:Nat)(v:Value)(vs:List Value)(L:List (List Value))(W:World):Prop where
 top:W.ownsRow B 109 1 v L.length vs
 row:∀ (i:Nat) (u:Value) (l:List Value),vs[i]? = some u→L[i]? = some l→W.ownsRow B 3 1 u l.length l
 apart:∀ (i j:Nat) (u u':Value) (b:Nat),vs[i]? = some u→vs[j]? = some u'→u.ownBlock=some b→u'.ownBlock=some b→i=j
 base:B≤W.heap.size
theorem Grid.len {B:Nat}{v:Value}{vs:List Value}{L:List (List Value)}{W:World}(h:Grid B v vs L W):vs.length=L.length:=by have:=h.top.1;omega
theorem Grid.below {B:Nat}{v:Value}{vs:List Value}{L:List (List Value)}{W W':World}(h:Grid B v vs L W)(hb:Below W.heap.size W W'):Grid B v vs L W' :=
 ⟨z1p h.top (fun k hk=>hb.block k (h.top.lt k hk).2),fun i u l hu hl=>z1p (h.row i u l hu hl) (fun k hk=>hb.block k ((h.row i u l hu hl).lt k hk).2),h.apart,by have:=h.base;have:=hb.size;omega⟩
theorem Grid.keep {B:Nat}{v:Value}{vs:List Value}{L:List (List Value)}{W W':World}(h:Grid B v vs L W)(hs:W.heap.size≤W'.heap.size)(ht:∀ k,v.ownBlock=some k→W'.heap[k]? = W.heap[k]?)
  (hr:∀ (i:Nat) (u:Value) (k:Nat),vs[i]? = some u→u.ownBlock=some k→W'.heap[k]? = W.heap[k]?):Grid B v vs L W' :=
 ⟨z1p h.top ht,fun i u l hu hl=>z1p (h.row i u l hu hl) (fun k hk=>hr i u k hu hk),h.apart,by have:=h.base;omega⟩
theorem Grid.made (B n:Nat)(W:World)(hB:B≤W.heap.size)(hn:n≤maxLen)(W':World)(v:Value)(hv:W'.ownsRow B 109 1 v n (List.replicate n (.slice none 0 0)))(hs:W.heap.size≤W'.heap.size) :
  Grid B v (List.replicate n (.slice none 0 0)) (List.replicate n []) W':=by
 refine⟨by rw [List.length_replicate];exact hv,fun i u l hu hl=>?_,fun i j u u' b hu _ hb _=>?_,by omega⟩
 ·obtain rfl:=(List.eq_of_mem_replicate (List.mem_of_getElem? hu))
  obtain rfl:=(List.eq_of_mem_replicate (List.mem_of_getElem? hl))
  exact World.ownsRow_nil _ _ _ _
 ·obtain rfl:=(List.eq_of_mem_replicate (List.mem_of_getElem? hu))
  simp [Value.ownBlock]at hb
theorem Grid.put {B g n cap:Nat}{vs:List Value}{L:List (List Value)}{W W1:World}(h:Grid B (.slice (some ⟨g,0,none⟩) n cap) vs L W)(i:Nat)(u u':Value)(l l':List Value)(hn:n=L.length)(hu:vs[i]? = some u)(hl:L[i]? = some l)
  (hgrow:W.grownBy W1 u.ownBlock) (hown:W1.ownsRow B 3 1 u' l'.length l') (hat:u'.ownBlock=u.ownBlock∨∀ k,u'.ownBlock=some k→W.heap.size≤k) :
  Grid B (.slice (some ⟨g,0,none⟩) n cap) (vs.set i u') (L.set i l') (W1.setCell ⟨g,i,none⟩ u'):=by
 subst hn
 have hlen:=h.len
 have hi:i<vs.length:=(zc hu)
 have hri:=h.row i u l hu hl
 have htop1:W1.ownsRow B 109 1 (.slice (some ⟨g,0,none⟩) L.length cap) L.length vs:=h.top.kept hgrow (z3l h.top hri (by decide))
 have hst:=htop1.stored i u'
 have hsz:W1.heap.size≤(W1.setCell ⟨g,i,none⟩ u').heap.size:=by simp
 refine⟨by rw [List.length_set];exact hst.1,fun j v l2 hv hl2=>?_,fun j k v v' b hv hv' hb hb'=>?_,by have:=h.base;have:=hgrow.size;omega⟩
 ·by_cases hij:j=i
  ·subst hij
   rw [List.getElem?_set_self (by omega)]at hv hl2
   cases hv;cases hl2
   exact hown.kept hst.2 (by have:=z3l hown htop1 (by decide);simpa [Value.ownBlock]using this)
  ·rw [List.getElem?_set_ne (Ne.symm hij)]at hv hl2
   have hr:=h.row j v l2 hv hl2
   have hr1:W1.ownsRow B 3 1 v l2.length l2:=hr.kept hgrow (by
    cases hb:v.ownBlock with
    | none=>exact .inl rfl
    | some b =>
     right
     intro hb'
     exact hij (h.apart j i v u b hv hu hb hb'.symm))
   exact hr1.kept hst.2 (by have:=z3l hr1 htop1 (by decide);simpa [Value.ownBlock]using this)
 ·have key:∀ (j:Nat) (v:Value) (b:Nat),j≠i→(vs.set i u')[j]? = some v→v.ownBlock=some b→u'.ownBlock=some b→False:=by
   intro j v b hji hv hb hb'
   rw [List.getElem?_set_ne (Ne.symm hji)]at hv
   rcases hat with hat | hat
   ·exact hji (h.apart j i v u b hv hu hb (hat ▸ hb'))
   ·have hjl:j<L.length:=by have:=(zc hv);omega
    have:=((h.row j v L[j] hv (by simp [hjl])).lt b hb).2
    have:=hat b hb'
    omega
  by_cases hj:j=i
  ·by_cases hk:k=i
   ·omega
   ·subst hj
    rw [List.getElem?_set_self (by omega)]at hv
    cases hv
    exact(key k v' b hk hv' hb' hb).elim
  ·by_cases hk:k=i
   ·subst hk
    rw [List.getElem?_set_self (by omega)]at hv'
    cases hv'
    exact(key j v b hj hv hb hb').elim
   ·rw [List.getElem?_set_ne (Ne.symm hj)]at hv
    rw [List.getElem?_set_ne (Ne.symm hk)]at hv'
    exact h.apart j k v v' b hv hv' hb hb'
theorem Grid.turn {B:Nat}{v:Value}{vs:List Value}{L:List (List Value)}{W W1:World}(h:Grid B v vs L W)(i:Nat)(u:Value)(l l':List Value)(hu:vs[i]? = some u)(hl:L[i]? = some l)
  (hgrow:W.grownBy W1 u.ownBlock) (hown:W1.ownsRow B 3 1 u l'.length l'):Grid B v vs (L.set i l') W1:=by
 have hlen:=h.len
 have hi:i<vs.length:=(zc hu)
 have hri:=h.row i u l hu hl
 refine⟨by rw [List.length_set];exact h.top.kept hgrow (z3l h.top hri (by decide)),fun j v l2 hv hl2=>?_,h.apart,by have:=h.base;have:=hgrow.size;omega⟩
 by_cases hij:j=i
 ·subst hij
  rw [List.getElem?_set_self (by omega)]at hl2
  cases hl2
  rw [hu]at hv
  cases hv
  exact hown
 ·rw [List.getElem?_set_ne (Ne.symm hij)]at hl2
  exact(h.row j v l2 hv hl2).kept hgrow (by
   cases hb:v.ownBlock with
   | none=>exact .inl rfl
   | some b =>
    right
    intro hb'
    exact hij (h.apart j i v u b hv hu hb hb'.symm))
theorem Grid.rows {B:Nat}{v:Value}{vs:List Value}{S:List (List Nat)}{W:World}(h:Grid B v vs (S.map (·.map natC)) W):RowsOf W.heap.size v S W:=by
 have hlen:=h.len
 simp only [List.length_map]at hlen
 rcases h.top.2 with ⟨rfl,h0⟩ | ⟨g,cap,cur,rfl,hb,hg,hc,_⟩
 ·simp only [List.length_map]at h0
  exact .inl ⟨List.length_eq_zero_iff.1 h0,_,_,rfl⟩
 ·refine .inr ⟨g,0,cap,by rw [List.length_map],(zb hg),fun i l hl=>?_⟩
  have hi:i<vs.length:=by have:=(zc hl);omega
  refine⟨vs[i],?_,?_⟩
  ·rw [Nat.zero_add]
   exact z0o h.top i _ (by simp [hi])
  ·exact(z29 (h.row i vs[i] (l.map natC) (by simp [hi]) (by rw [List.getElem?_map,hl];rfl))).2
theorem Grid.shape {B:Nat}{v:Value}{vs:List Value}{L:List (List Value)}{W:World}(h:Grid B v vs L W):∃ a c,v=.slice a L.length c:=by
 rcases h.top.2 with ⟨rfl,h0⟩ | ⟨g,cap,cur,rfl,_⟩
 ·exact⟨none,0,by rw [h0]⟩
 ·exact⟨_,_,rfl⟩
-- grid_shape
end
section
open Go.Proofs.Tryz Go Go.RowKit Go.Sort
def SpansOf (B:Nat)(v:Value)(es:List (Int×Int))(W:World):Prop :=
 ∃ ao cap,v=.slice ao es.length cap∧∀ i x,es[i]? = some x→∃ b off,ao=some ⟨b,off,none⟩∧b<B∧W.cell? ⟨b,off+i*2,none⟩=some (intC x.1)∧W.cell? ⟨b,off+i*2+1,none⟩=some (intC x.2)
theorem SpansOf.below {B B':Nat}{v:Value}{es:List (Int×Int)}{W W':World}(h:SpansOf B v es W)(hb:Below B' W W')(hB:B≤B'):SpansOf B v es W':=by
 obtain⟨ao,cap,rfl,h⟩:=h
 refine⟨ao,cap,rfl,fun i x hx=>?_⟩
 obtain⟨b,off,rfl,hlt,h1,h2⟩:=h i x hx
 exact⟨b,off,rfl,hlt,(hb.cell (p:=⟨b,off+i*2,none⟩) (by simp;omega)).trans h1,(hb.cell (p:=⟨b,off+i*2+1,none⟩) (by simp;omega)).trans h2⟩
theorem SpansOf.mono {B B':Nat}{v:Value}{es:List (Int×Int)}{W:World}(h:SpansOf B v es W)(hB:B≤B'):SpansOf B' v es W:=by
 obtain⟨ao,cap,rfl,h⟩:=h
 refine⟨ao,cap,rfl,fun i x hx=>?_⟩
 obtain⟨b,off,rfl,hlt,h1,h2⟩:=h i x hx
 exact⟨b,off,rfl,by omega,h1,h2⟩
def spanCells (es:List (Int×Int)):List Value:=es.flatMap fun x=>[intC x.1,intC x.2]
theorem z1j (es:List (Int×Int))(x:Int×Int):spanCells (es++[x])=spanCells es++[intC x.1,intC x.2]:=by unfold spanCells;rw [List.flatMap_append];rfl
theorem z0a (es:List (Int×Int)):(spanCells es).length=es.length*2:=by
 induction es with
 | nil=>rfl
 | cons x es ih=>show(intC x.1::intC x.2::spanCells es).length=_;simp [ih];omega
theorem z0u (es:List (Int×Int))(i:Nat)(x:Int×Int)(h:es[i]? = some x):(spanCells es)[i*2]? = some (intC x.1)∧(spanCells es)[i*2+1]? = some (intC x.2):=by
 induction es generalizing i with
 | nil=>simp at h
 | cons y es ih =>
  cases i with
  | zero=>simp at h;subst h;exact⟨rfl,rfl⟩
  | succ i =>
   have:=ih i (by simpa using h)
   have e:∀ j,(spanCells (y::es))[j+2]? = (spanCells es)[j]?:=fun j=>rfl
   rw [show(i+1)*2=i*2+2 by omega,show i*2+2+1=(i*2+1)+2 by omega,e,e]
   exact this
theorem zby {W:World}{B n:Nat}{v:Value}{es:List (Int×Int)}(h:W.ownsRow B 100 2 v n (spanCells es)):SpansOf W.heap.size v es W:=by
 have hl:n=es.length:=by have:=h.1;rw [z0a]at this;omega
 subst hl
 rcases h.2 with ⟨rfl,h0⟩ | ⟨g,cap,cur,rfl,hb,hg,hc,_⟩
 ·obtain rfl:=List.length_eq_zero_iff.1 h0
  exact⟨none,0,rfl,fun i x hx=>by simp at hx⟩
 ·refine⟨_,cap,rfl,fun i x hx=>⟨g,0,rfl,(zb hg),?_,?_⟩⟩
  ·have hi:=(zc hx)
   rw [Nat.zero_add,h.cellAt (i*2) (by omega)]
   exact(z0u es i x hx).1
  ·have hi:=(zc hx)
   rw [Nat.zero_add,h.cellAt (i*2+1) (by omega)]
   exact(z0u es i x hx).2
theorem z5e:(prog.info? 100).map (fun i=>(i.zero,i.size,i.bytes))=some (some (.agg #[.int .i64 0,.int .i64 0]),2,16):=by kernel_rfl
theorem z1b {W:World}{g t:Nat}{x y x' y':Value}(h:W.heap[g]? = some (.cells #[x,y] t (0,0))):((W.setCell ⟨g,0,none⟩ x').setCell ⟨g,1,none⟩ y').heap[g]? = some (.cells #[x',y'] t (0,0)):=by
 have h1:=heap_setCell_same W g 0 #[x,y] t x' h
 exact heap_setCell_same _ g 1 _ t y' h1
abbrev spanV (x:Int×Int):Value:=.agg #[intC x.1,intC x.2]
def PredS (g:Nat)(lb:Array Value)(es:List (Int×Int))(p:Int×Int→Bool)(w:World):Prop :=
 ∀ (W:World) (x:Int×Int),x∈es→Below w.heap.size w W→Calls prog g (#[spanV x]++lb) W fun e w'=>e=.returned (.bool (p x))∧Below w.heap.size w w'
theorem zhv (g:Nat)(lb:Array Value)(eg:∀ args w,(callFunc g args).run prog w=.ok (.enter g args) w)(p:Int×Int→Bool)(v:Value)(es:List (Int×Int))(w:World)(hes:es.length≤1000000000)(hE:SpansOf w.heap.size v es w)(hp:PredS g lb es p w) :
  Calls prog 174 #[v,.func (.func g) #[] lb] w fun e w'=>∃ r:Int,e=.returned (.int .i64 r)∧(0≤r ↔ es.any p=true)∧Below w.heap.size w w':=by
 obtain⟨ao,ec,rfl,hE⟩:=hE
 have HE:=zh hE
 have HP:=zh hp
 clear hE hp
 go_enter func174,ntmps174
 go_wp2
 go_loopw [8] (fun s wr=>∃ k:Nat,k≤es.length∧s=.int .i64 k∧Hid (Below w.heap.size w wr)∧Hid (∀ x∈es.take k,p x=false)) (fun s _=>es.length - (intOf s).toNat)
 case atStart=>exact⟨0,by omega,rfl,zh (Below.refl _ _),zh (by simp)⟩
 case round =>
  obtain⟨k,hk,rfl,HB,HA⟩:=hrel
  by_cases hlt:k<es.length
  ·have hlt2:(k:Int)<(es.length:Int):=by omega
   obtain⟨b,off,rfl,hb,hc1,hc2⟩:=HE.out k es[k] (by simp [hlt])
   have hc1:=(HB.out.cell (p:=⟨b,off+k*2,none⟩) hb).trans hc1
   have hc2:=(HB.out.cell (p:=⟨b,off+k*2+1,none⟩) hb).trans hc2
   have HT:Hid (es.take (k+1)=es.take k++[es[k]]):=zh (zs hlt)
   have hcall:=HP.out wr es[k] (List.getElem_mem hlt) HB.out
   have HM:Hid (es[k]∈es):=zh (List.getElem_mem hlt)
   generalize es[k]=x at *
   cases hq:p x with
   | true =>
    rw [hq]at hcall
    have HQ:=zh hq
    clear hq
    go_wp2_with (go_at_fn g;refine hcall.mono ?_;rintro e w' ⟨rfl,hb'⟩)
    go_ret
    exact⟨_,rfl,⟨fun _=>by rw [List.any_eq_true];exact⟨x,HM.out,HQ.out⟩,fun _=>by omega⟩,hb'⟩
   | false =>
    rw [hq]at hcall
    have HQ:=zh hq
    clear hq
    go_wp2_with (go_at_fn g;refine hcall.mono ?_;rintro e w' ⟨rfl,hb'⟩)
    go_roundw
    case rel =>
     refine⟨k+1,by omega,by go_num,zh hb',zh ?_⟩
     rw [HT.out]
     intro y hy
     rcases List.mem_append.1 hy with hy | hy
     ·exact HA.out y hy
     ·rw [List.mem_singleton]at hy;rw [hy];exact HQ.out
    case measure=>simp [intOf];omega
  ·have hkk:k=es.length:=by omega
   subst hkk
   rw [List.take_length]at HA
   go_wp2
   go_ret
   refine⟨-1,rfl,⟨fun h=>by omega,fun h=>?_⟩,HB.out⟩
   rw [List.any_eq_true]at h
   obtain⟨x,hx,hpx⟩:=h
   rw [HA.out x hx]at hpx
   cases hpx
theorem zht (g:Nat)(lb:Array Value)(eg:∀ args w,(callFunc g args).run prog w=.ok (.enter g args) w)(p:Int×Int→Bool)(v:Value)(es:List (Int×Int))(w:World)(hes:es.length≤1000000000)(hE:SpansOf w.heap.size v es w)(hp:PredS g lb es p w) :
  Calls prog 143 #[v,.func (.func g) #[] lb] w fun e w'=>e=.returned (.bool (es.any p))∧Below w.heap.size w w':=by
 have hi:=zhv g lb eg p v es w hes hE hp
 generalize es.any p=q at hi ⊢
 have HI:=zh hi
 obtain⟨ao,ec,rfl,_⟩:=hE
 clear hp eg hi
 go_enter func143,ntmps143
 go_wp2_with fail
 refine HI.out.mono ?_
 rintro e w' ⟨r,rfl,hr,hb⟩
 cases q with
 | true =>
  have h0:0≤r:=hr.2 rfl
  clear hr
  go_wp2
  go_ret
  exact⟨rfl,hb⟩
 | false =>
  have h0:¬ 0≤r:=fun h=>by have:=hr.1 h;cases this
  have h1:decide (0≤r)=false:=decide_eq_false h0
  have h2:r<0:=by omega
  clear hr
  go_wp2
  go_ret
  exact⟨rfl,hb⟩
end
section
open Go.Proofs.Tryz Go Go.RowKit Go.Maps
def ReadsI (D:DataW Unit)(f:Int→Int)(K:Int→Prop):Prop :=
 IsMap D∧(∀ q,D.atKey (.int .i64 q) (.lit (.int .i64 0))=.lit (.int .i64 (f q)))∧∀ q,Maps.has D (.int .i64 q)=true ↔ K q
def keyE (E:List (Int×Int))(q:Int):Prop:=q=0∨q=1000000∨∃ x∈E,q=x.1∨q=x.2
def SetsOf (B:Nat)(v:Value)(l:List (List (Int×Int)))(W:World):Prop :=
 ∃ ao cap,v=.slice ao l.length cap∧∀ i s,l[i]? = some s→∃ b off r,ao=some ⟨b,off,none⟩∧b<B∧W.cell? ⟨b,off+i,none⟩=some r∧SpansOf B r s W
def CollI (D:DataW Unit)(left:Lit→Bool)(ks:List Int):Prop:=ks.Nodup∧∀ x,x∈ks ↔ (Maps.has D (.int .i64 x)=true∧left (.int .i64 x)=false)
end
end Go.Proofs.YtapbhoodgnmnkaaGreatDoor
