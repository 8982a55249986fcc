/- Laws and contracts. -/
import Derived.Test.YtapbhoodgnmnkaaGreatDoorZz
import Derived.WalkSpells
import Derived.WalkLawsBesides
import Derived.Deep.DrawnRows
import Derived.Test.YtapbhoodgnmnkaaGreatDoorRows
import Derived.Test.YtapbhoodgnmnkaaGreatDoorRShelf
import Derived.Lib.Bytes
import Derived.Lib.Join
import Derived.Lib.ItoaNum
set_option linter.unusedVariables false
set_option linter.unusedSimpArgs false
set_option maxRecDepth 100000
set_option maxHeartbeats 32000000
namespace Go.Proofs.YtapbhoodgnmnkaaGreatDoor
open Go.Proofs.Tryz
def InL (l:List (Int×Int))(p:Int):Prop:=∃ x∈l,x.1≤p∧p<x.2
def Can (l:List (Int×Int)):Prop:=l.Pairwise (fun a b=>a.2<b.1)∧∀ x∈l,0≤x.1∧x.1<x.2∧x.2≤1000000
def clamp (x:Int×Int):Int×Int:=(max x.1 0,min x.2 1000000)
def clampS (s:List (Int×Int)):List (Int×Int):=(s.map clamp).filter fun x=>decide (x.1<x.2)
def joinS (acc:List (Int×Int))(x:Int×Int):List (Int×Int) :=
 match acc.getLast? with
 | some y=>if x.1≤y.2 then acc.dropLast++[(y.1,max y.2 x.2)] else acc++[x]
 | none=>[x]
def mergeS (l:List (Int×Int)):List (Int×Int):=l.foldl joinS []
def leF (a b:Int×Int):Bool:=decide (a.1≤b.1)
def canon (s:List (Int×Int)):List (Int×Int):=mergeS ((clampS s).mergeSort leF)
theorem z48 (p:Int):¬ InL [] p:=fun⟨_,h,_⟩=>by cases h
theorem z0r (x:Int×Int)(l:List (Int×Int))(p:Int):InL (x::l) p ↔ (x.1≤p∧p<x.2)∨InL l p:=by
 constructor
 ·rintro⟨y,hy,h⟩
  rcases List.mem_cons.1 hy with rfl | hy
  ·exact .inl h
  ·exact .inr ⟨y,hy,h⟩
 ·rintro(h | ⟨y,hy,h⟩)
  ·exact⟨x,List.mem_cons_self,h⟩
  ·exact⟨y,List.mem_cons_of_mem _ hy,h⟩
theorem z5d (a b:List (Int×Int))(p:Int):InL (a++b) p ↔ InL a p∨InL b p:=by
 induction a with
 | nil=>simp [z48]
 | cons x a ih=>rw [List.cons_append,z0r,z0r,ih,or_assoc]
theorem z9r (x:Int×Int)(p:Int):InL [x] p ↔ (x.1≤p∧p<x.2):=by rw [z0r];simp [z48]
theorem zej {a b:List (Int×Int)}(h:a.Perm b)(p:Int):InL a p ↔ InL b p :=
 ⟨fun⟨x,hx,hp⟩=>⟨x,h.mem_iff.1 hx,hp⟩,fun⟨x,hx,hp⟩=>⟨x,h.mem_iff.2 hx,hp⟩⟩
theorem z4o (x:Int×Int):joinS [] x=[x]:=rfl
theorem z3w (a:List (Int×Int))(y x:Int×Int):joinS (a++[y]) x=if x.1≤y.2 then a++[(y.1,max y.2 x.2)] else a++[y]++[x]:=by
 unfold joinS
 rw [List.getLast?_concat,List.dropLast_concat]
theorem zh6:Can []:=⟨List.Pairwise.nil,fun x h=>by cases h⟩
theorem z4d {x:Int×Int}{l:List (Int×Int)}:Can (x::l) ↔ (0≤x.1∧x.1<x.2∧x.2≤1000000)∧(∀ y∈l,x.2<y.1)∧Can l:=by
 unfold Can
 rw [List.pairwise_cons]
 constructor
 ·rintro⟨⟨h1,h2⟩,h3⟩
  exact⟨h3 x List.mem_cons_self,h1,h2,fun y hy=>h3 y (List.mem_cons_of_mem _ hy)⟩
 ·rintro⟨h1,h2,h3,h4⟩
  refine⟨⟨h2,h3⟩,fun y hy=>?_⟩
  rcases List.mem_cons.1 hy with rfl | hy
  ·exact h1
  ·exact h4 y hy
theorem z9k {x:Int×Int}{l:List (Int×Int)}:Can (l++[x]) ↔ Can l∧(∀ y∈l,y.2<x.1)∧(0≤x.1∧x.1<x.2∧x.2≤1000000):=by
 unfold Can
 rw [List.pairwise_append]
 constructor
 ·rintro⟨⟨h1,_,h2⟩,h3⟩
  exact⟨⟨h1,fun y hy=>h3 y (List.mem_append_left _ hy)⟩,fun y hy=>h2 y hy x (by simp),h3 x (by simp)⟩
 ·rintro⟨⟨h1,h2⟩,h3,h4⟩
  refine⟨⟨h1,by simp,fun a ha b hb=>?_⟩,fun y hy=>?_⟩
  ·rcases List.mem_singleton.1 hb with rfl
   exact h3 a ha
  ·rcases List.mem_append.1 hy with hy | hy
   ·exact h2 y hy
   ·rcases List.mem_singleton.1 hy with rfl
    exact h4
theorem z86:∀ {a b:List (Int×Int)},Can a→Can b→(∀ p,InL a p ↔ InL b p)→a=b
 | [],[],_,_,_=>rfl
 | [],y::b,_,hb,h=>by
  have hy:=(z4d.1 hb).1
  exact absurd ((h y.1).2 ((z0r y b y.1).2 (.inl ⟨Int.le_refl _,hy.2.1⟩))) (z48 _)
 | x::a,[],ha,_,h=>by
  have hx:=(z4d.1 ha).1
  exact absurd ((h x.1).1 ((z0r x a x.1).2 (.inl ⟨Int.le_refl _,hx.2.1⟩))) (z48 _)
 | x::a,y::b,ha,hb,h=>by
  obtain⟨hx,hxa,ha'⟩:=z4d.1 ha
  obtain⟨hy,hyb,hb'⟩:=z4d.1 hb
  have lowa:∀ p,InL (x::a) p→x.1≤p:=fun p hp=>by
   rcases(z0r _ _ _).1 hp with hp | ⟨z,hz,hp⟩
   ·exact hp.1
   ·have:=hxa z hz;omega
  have lowb:∀ p,InL (y::b) p→y.1≤p:=fun p hp=>by
   rcases(z0r _ _ _).1 hp with hp | ⟨z,hz,hp⟩
   ·exact hp.1
   ·have:=hyb z hz;omega
  have e1:x.1=y.1:=by
   have h1:=lowb x.1 ((h x.1).1 ((z0r _ _ _).2 (.inl ⟨Int.le_refl _,hx.2.1⟩)))
   have h2:=lowa y.1 ((h y.1).2 ((z0r _ _ _).2 (.inl ⟨Int.le_refl _,hy.2.1⟩)))
   omega
  have e2:x.2=y.2:=by
   rcases Int.lt_trichotomy x.2 y.2 with h1 | h1 | h1
   ·exfalso
    have h2:=(h x.2).2 ((z0r _ _ _).2 (.inl ⟨by omega,h1⟩))
    rcases(z0r _ _ _).1 h2 with h3 | ⟨z,hz,h3⟩
    ·omega
    ·have:=hxa z hz;omega
   ·exact h1
   ·exfalso
    have h2:=(h y.2).1 ((z0r _ _ _).2 (.inl ⟨by omega,h1⟩))
    rcases(z0r _ _ _).1 h2 with h3 | ⟨z,hz,h3⟩
    ·omega
    ·have:=hyb z hz;omega
  have exy:x=y:=Prod.ext e1 e2
  subst exy
  have:a=b:=z86 ha' hb' fun p=>by
   have hp:=h p
   rw [z0r,z0r]at hp
   constructor
   ·intro hq
    have hn:¬ (x.1≤p∧p<x.2):=fun hc=>by
     obtain⟨z,hz,h3⟩:=hq
     have:=hxa z hz;omega
    exact(hp.1 (.inr hq)).resolve_left hn
   ·intro hq
    have hn:¬ (x.1≤p∧p<x.2):=fun hc=>by
     obtain⟨z,hz,h3⟩:=hq
     have:=hyb z hz;omega
    exact(hp.2 (.inr hq)).resolve_left hn
  rw [this]
theorem zka (acc:List (Int×Int))(x:Int×Int)(h:Can acc)(hx:0≤x.1∧x.1<x.2∧x.2≤1000000)(hle:∀ y∈acc,y.1≤x.1) :
  Can (joinS acc x)∧(∀ p,InL (joinS acc x) p ↔ InL acc p∨(x.1≤p∧p<x.2))∧(∀ y∈joinS acc x,y.1≤x.1):=by
 rcases List.eq_nil_or_concat acc with rfl | ⟨a,y,rfl⟩
 ·rw [z4o]
  exact⟨z4d.2 ⟨hx,(fun _ h=>by cases h),zh6⟩,fun p=>by rw [z9r];simp [z48],fun y hy=>by rcases List.mem_singleton.1 hy with rfl;exact Int.le_refl _⟩
 ·rw [List.concat_eq_append]at *
  rw [z3w]
  obtain⟨ha,hya,hy⟩:=z9k.1 h
  have hyx:=hle y (by simp)
  split
  ·rename_i hc
   refine⟨z9k.2 ⟨ha,hya,by simp only;omega⟩,fun p=>?_,fun z hz=>?_⟩
   ·rw [z5d,z5d,z9r,z9r,or_assoc]
    refine or_congr_right ⟨fun hp=>?_,fun hp=>?_⟩<;>simp only at hp ⊢<;>omega
   ·rcases List.mem_append.1 hz with hz | hz
    ·exact hle z (by simp [hz])
    ·rcases List.mem_singleton.1 hz with rfl
     exact hyx
  ·rename_i hc
   refine⟨z9k.2 ⟨h,fun z hz=>?_,hx⟩,fun p=>by rw [z5d _ [x],z9r],fun z hz=>?_⟩
   ·rcases List.mem_append.1 hz with hz | hz
    ·have:=hya z hz;omega
    ·rcases List.mem_singleton.1 hz with rfl
     omega
   ·rcases List.mem_append.1 hz with hz | hz
    ·exact hle z hz
    ·rcases List.mem_singleton.1 hz with rfl
     exact Int.le_refl _
theorem zb6:∀ (l acc:List (Int×Int)),Can acc→(∀ x∈l,0≤x.1∧x.1<x.2∧x.2≤1000000)→l.Pairwise (fun a b=>a.1≤b.1)→(∀ y∈acc,∀ x∈l,y.1≤x.1) →
  Can (l.foldl joinS acc)∧∀ p,InL (l.foldl joinS acc) p ↔ InL acc p∨InL l p
 | [],acc,h,_,_,_=>⟨h,fun p=>by simp [z48]⟩
 | x::l,acc,h,hx,hs,hle=>by
  rw [List.pairwise_cons]at hs
  obtain⟨h1,h2,h3⟩:=zka acc x h (hx x List.mem_cons_self) fun y hy=>hle y hy x List.mem_cons_self
  obtain⟨h4,h5⟩:=zb6 l (joinS acc x) h1 (fun y hy=>hx y (List.mem_cons_of_mem _ hy)) hs.2 fun y hy z hz=>Int.le_trans (h3 y hy) (hs.1 z hz)
  refine⟨h4,fun p=>?_⟩
  rw [List.foldl_cons,h5,h2,z0r,or_assoc]
theorem zbm {l:List (Int×Int)}(hx:∀ x∈l,0≤x.1∧x.1<x.2∧x.2≤1000000)(hs:l.Pairwise (fun a b=>a.1≤b.1)):Can (mergeS l)∧∀ p,InL (mergeS l) p ↔ InL l p:=by
 obtain⟨h1,h2⟩:=zb6 l [] zh6 hx hs (fun y hy=>by cases hy)
 exact⟨h1,fun p=>by unfold mergeS;rw [h2];simp [z48]⟩
theorem z58 {s:List (Int×Int)}{x:Int×Int}(h:x∈clampS s):0≤x.1∧x.1<x.2∧x.2≤1000000:=by
 unfold clampS at h
 rw [List.mem_filter,List.mem_map]at h
 obtain⟨⟨y,_,rfl⟩,h2⟩:=h
 unfold clamp at *
 have:=of_decide_eq_true h2
 simp only at *
 omega
theorem zhz (a b:Int×Int):(leF a b||leF b a)=true:=by
 unfold leF
 rw [Bool.or_eq_true,decide_eq_true_eq,decide_eq_true_eq]
 omega
theorem zi0 (a b c:Int×Int)(h1:leF a b=true)(h2:leF b c=true):leF a c=true:=by
 unfold leF at *
 rw [decide_eq_true_eq]at *
 omega
theorem zgp (l:List (Int×Int)):(l.mergeSort leF).Pairwise (fun a b=>a.1≤b.1) :=
 (List.pairwise_mergeSort zi0 (fun a b=>zhz a b) l).imp fun h=>of_decide_eq_true h
theorem z87 (s:List (Int×Int)):Can (canon s)∧∀ p,InL (canon s) p ↔ InL (clampS s) p:=by
 obtain⟨h1,h2⟩:=zbm (l:=(clampS s).mergeSort leF) (fun x hx=>z58 ((List.mergeSort_perm _ _).mem_iff.1 hx)) (zgp _)
 exact⟨h1,fun p=>by unfold canon;rw [h2,zej (List.mergeSort_perm _ _)]⟩
theorem zh7 (s:List (Int×Int)):Can (canon s):=(z87 s).1
theorem z49 {s l:List (Int×Int)}(h:l.Perm (clampS s))(hs:l.Pairwise (fun a b=>a.1≤b.1)):mergeS l=canon s:=by
 obtain⟨h1,h2⟩:=zbm (l:=l) (fun x hx=>z58 (h.mem_iff.1 hx)) hs
 exact z86 h1 (zh7 s) fun p=>by rw [h2,zej h,(z87 s).2]
theorem zeo (acc:List (Int×Int))(x:Int×Int):(joinS acc x).length≤acc.length+1∧0<(joinS acc x).length:=by
 rcases List.eq_nil_or_concat acc with rfl | ⟨a,y,rfl⟩
 ·rw [z4o];simp
 ·rw [List.concat_eq_append,z3w]
  split<;>simp
theorem z70:∀ (l acc:List (Int×Int)),(l.foldl joinS acc).length≤acc.length+l.length
 | [],acc=>by simp
 | x::l,acc=>by
  rw [List.foldl_cons]
  have:=z70 l (joinS acc x)
  have:=(zeo acc x).1
  simp only [List.length_cons]
  omega
theorem z2m (s:List (Int×Int)):(clampS s).length≤s.length:=by
 unfold clampS
 have:=List.length_filter_le (fun x:Int×Int=>decide (x.1<x.2)) (s.map clamp)
 rw [List.length_map]at this
 exact this
theorem zap (s:List (Int×Int)):(canon s).length≤s.length:=by
 unfold canon mergeS
 have:=z70 ((clampS s).mergeSort leF) []
 have:=z2m s
 rw [List.length_mergeSort]at *
 simp only [List.length_nil]at *
 omega
def hasB (s:List (Int×Int))(p:Int):Bool:=(decide (0≤p)&&decide (p<1000000))&&s.any fun x=>decide (x.1≤p)&&decide (p<x.2)
theorem zk5 (s:List (Int×Int))(p:Int):hasB s p=true ↔ InL s p∧0≤p∧p<1000000:=by
 unfold hasB InL
 simp only [Bool.and_eq_true,decide_eq_true_eq,List.any_eq_true]
 constructor
 ·rintro⟨⟨h1,h2⟩,x,hx,h3⟩
  exact⟨⟨x,hx,h3⟩,h1,h2⟩
 ·rintro⟨⟨x,hx,h3⟩,h1,h2⟩
  exact⟨⟨h1,h2⟩,x,hx,h3⟩
def cntIn (l:List (List (Int×Int)))(p:Int):Nat:=l.countP fun s=>hasB s p
def chgE (E:List (Int×Int))(q:Int):Int:=(E.countP fun x=>decide (x.1=q):Nat) - (E.countP fun x=>decide (x.2=q):Nat)
def covE (E:List (Int×Int))(p:Int):Nat:=E.countP fun x=>decide (x.1≤p)&&decide (p<x.2)
def runC (E:List (Int×Int))(bs:List Int)(k:Nat):Int:=((bs.take k).map (chgE E)).sum
def outC (keep:Int→Bool)(E:List (Int×Int))(bs:List Int)(k:Nat):List (Int×Int) :=
 ((List.range k).filter fun i=>keep (runC E bs (i+1))).map fun i=>(bs.getD i 0,bs.getD (i+1) 0)
def spansOf (l:List (List (Int×Int))):List (Int×Int):=l.flatMap canon
def onceI:List Int→List Int
 | []=>[]
 | a::l=>if a∈onceI l then onceI l else a::onceI l
def endsE (E:List (Int×Int)):List Int:=E.flatMap fun x=>[x.1,x.2]
def leI (a b:Int):Bool:=decide (a≤b)
def boundsE (E:List (Int×Int)):List Int:=(onceI (0::1000000::endsE E)).mergeSort leI
def combS (keep:Int→Bool)(l:List (List (Int×Int))):List (Int×Int) :=
 canon (outC keep (spansOf l) (boundsE (spansOf l)) ((boundsE (spansOf l)).length - 1))
def unionS (l:List (List (Int×Int))):List (Int×Int):=combS (fun n=>decide (0<n)) l
def interS (l:List (List (Int×Int))):List (Int×Int):=combS (fun n=>decide (n=(l.length:Int))) l
def complS (s:List (Int×Int)):List (Int×Int):=combS (fun n=>decide (n=0)) [s]
def minusS (a b:List (Int×Int)):List (Int×Int):=interS [a,complS b]
def subB (a b:List (Int×Int)):Bool:=decide (minusS a b=[])
def gapsF (q:Int):List (Int×Int)→List (Int×Int)
 | []=>if q<1000000 then [(q,1000000)] else []
 | x::t=>(if q<x.1 then [(q,x.1)] else [])++gapsF x.2 t
def gapSt (s:List (Int×Int)×Int)(x:Int×Int):List (Int×Int)×Int:=(if s.2<x.1 then s.1++[(s.2,x.1)] else s.1,x.2)
def gapEnd (s:List (Int×Int)×Int):List (Int×Int):=if s.2<1000000 then s.1++[(s.2,1000000)] else s.1
theorem zk6 (s:List (Int×Int))(p:Int):(s.any fun x=>decide (max 0 x.1≤p)&&decide (p<min 1000000 x.2))=hasB s p:=by
 rw [Bool.eq_iff_iff,zk5]
 unfold InL
 simp only [List.any_eq_true,Bool.and_eq_true,decide_eq_true_eq]
 constructor
 ·rintro⟨x,hx,h1,h2⟩
  exact⟨⟨x,hx,by omega,by omega⟩,by omega,by omega⟩
 ·rintro⟨⟨x,hx,h1,h2⟩,h3,h4⟩
  exact⟨x,hx,by omega,by omega⟩
section
open Go.Proofs.Tryz Go Go.RowKit
def partB (a:Int):Bool:=decide (0≤a∧a≤999)
def validB (a b c:Int):Bool:=partB a&&(partB b&&partB c)
def cmpI (a b:Int):Int:=if a<b then -1 else if b<a then 1 else 0
def cmpV (a b c x y z:Int):Int:=if cmpI a x≠0 then cmpI a x else if cmpI b y≠0 then cmpI b y else cmpI c z
theorem zc1 (a b c:Int)(w:World) :
  Calls prog 173 #[.agg #[.int .i64 a,.int .i64 b,.int .i64 c]] w fun e w'=>e=.returned (.agg #[.int .i64 a,.int .i64 b,.int .i64 c])∧w'=(w.alloc (.cells #[.int .i64 a,.int .i64 b,.int .i64 c] 51)).alloc (.cells #[.int .i64 a,.int .i64 b,.int .i64 c] 216):=by
 go_enter func173,ntmps173
 go_wp2
 exact bodyPost_ret (v:=.agg #[.int .i64 a,.int .i64 b,.int .i64 c]) (by simp [results,Tryz.results173,go_sem]) rfl ⟨rfl,rfl⟩
theorem zdk (a:Int)(w:World):Calls prog 166 #[.int .i64 a] w fun e w'=>e=.returned (.bool false)∧w=w':=by
 go_enter func166,ntmps166
 go_wp2
 go_ret
 exact⟨rfl,rfl⟩
theorem z59 (a b:Int)(w:World):Calls prog 186 #[.int .i64 a,.int .i64 b] w fun e w'=>e=.returned (.int .i64 (cmpI a b))∧w=w':=by
 rcases Int.lt_trichotomy a b with h | h | h
 ·have hc:cmpI a b=-1:=by unfold cmpI;rw [if_pos h]
  rw [hc];clear hc
  go_enter func186,ntmps186
  go_wp2_with (go_at_call 166;refine(zdk _ _).mono ?_;rintro e w' ⟨rfl,rfl⟩)
  go_ret
  exact⟨rfl,rfl⟩
 ·have hc:cmpI a b=0:=by unfold cmpI;rw [if_neg (by omega),if_neg (by omega)]
  rw [hc];clear hc
  subst h
  go_enter func186,ntmps186
  go_wp2_with (go_at_call 166;refine(zdk _ _).mono ?_;rintro e w' ⟨rfl,rfl⟩)
  go_ret
  exact⟨rfl,rfl⟩
 ·have hc:cmpI a b=1:=by unfold cmpI;rw [if_neg (by omega),if_pos h]
  rw [hc];clear hc
  have h2:¬ a<b:=by omega
  go_enter func186,ntmps186
  go_wp2_with (go_at_call 166;refine(zdk _ _).mono ?_;rintro e w' ⟨rfl,rfl⟩)
  go_ret
  exact⟨rfl,rfl⟩
end
section
open Go.Proofs.Tryz Go Go.RowKit
theorem zfg {a b c:Int}(h:validB a b c=true):(0≤a∧a≤999)∧(0≤b∧b≤999)∧0≤c∧c≤999:=by
 unfold validB partB at h
 simpa using h
theorem z6a {a:Int}(h:partB a=true):¬ a<0∧¬ 999<a:=by unfold partB at h;have:=of_decide_eq_true h;omega
theorem za5 {a:Int}(h:partB a=false):a<0∨(¬ a<0∧999<a):=by unfold partB at h;have:=of_decide_eq_false h;omega
theorem z6j (a b c:Int)(w:World):Calls prog 142 #[.agg #[.int .i64 a,.int .i64 b,.int .i64 c]] w fun e w'=>e=.returned (.bool (validB a b c))∧w'=((w.alloc (.cells #[.int .i64 a,.int .i64 b,.int .i64 c] 51)).alloc (.cells #[.int .i64 a,.int .i64 b,.int .i64 c] 51)).alloc (.cells #[.int .i64 a,.int .i64 b,.int .i64 c] 216):=by
 have i0:∀ w,(Instr.index 216 (.agg #[.int .i64 a,.int .i64 b,.int .i64 c]) (.int .i64 0)).run prog w=.ok (.int .i64 a) w:=fun _=>by kernel_rfl
 have i1:∀ w,(Instr.index 216 (.agg #[.int .i64 a,.int .i64 b,.int .i64 c]) (.int .i64 1)).run prog w=.ok (.int .i64 b) w:=fun _=>by kernel_rfl
 have i2:∀ w,(Instr.index 216 (.agg #[.int .i64 a,.int .i64 b,.int .i64 c]) (.int .i64 2)).run prog w=.ok (.int .i64 c) w:=fun _=>by kernel_rfl
 obtain⟨v,hv⟩:∃ v,validB a b c=v:=⟨_,rfl⟩
 rw [hv]
 have HV:=zh hv
 clear hv
 go_enter func142,ntmps142
 go_wp2_with (go_at_call 173;refine(zc1 _ _ _ _).mono ?_;rintro e w' ⟨rfl,rfl⟩)
 go_loop [7] (fun i=>(i=.int .i64 0)∨(i=.int .i64 1∧Hid (partB a=true))∨(i=.int .i64 2∧Hid (partB a=true∧partB b=true))∨(i=.int .i64 3∧Hid (partB a=true∧partB b=true∧partB c=true))) (fun i=>3 - (intOf i).toNat)
 case atStart=>exact .inl rfl
 case round =>
  rcases hrel with rfl | ⟨rfl,H1⟩ | ⟨rfl,H2⟩ | ⟨rfl,H3⟩
  ·by_cases hp:partB a=true
   ·obtain⟨h1,h2⟩:=z6a hp
    have HP:=zh hp
    clear hp
    go_wp2
    go_round
    case rel=>exact .inr (.inl ⟨rfl,HP⟩)
    case measure=>simp [intOf]
   ·have HP:=zh hp
    have HVF:=zh (show v=false by rw [← HV.out];unfold validB;simp [HP.out])
    rcases za5 (by simpa using hp)with h1 | ⟨h1,h2⟩
    all_goals
     clear hp
     go_wp2
     go_ret
     exact⟨by rw [HVF.out];rfl,rfl⟩
  ·by_cases hp:partB b=true
   ·obtain⟨h1,h2⟩:=z6a hp
    have HP:=zh hp
    clear hp
    go_wp2
    go_round
    case rel=>exact .inr (.inr (.inl ⟨rfl,zh ⟨H1.out,HP.out⟩⟩))
    case measure=>simp [intOf]
   ·have HP:=zh hp
    have HVF:=zh (show v=false by rw [← HV.out];unfold validB;simp [HP.out])
    rcases za5 (by simpa using hp)with h1 | ⟨h1,h2⟩
    all_goals
     clear hp
     go_wp2
     go_ret
     exact⟨by rw [HVF.out];rfl,rfl⟩
  ·by_cases hp:partB c=true
   ·obtain⟨h1,h2⟩:=z6a hp
    have HP:=zh hp
    clear hp
    go_wp2
    go_round
    case rel=>exact .inr (.inr (.inr ⟨rfl,zh ⟨H2.out.1,H2.out.2,HP.out⟩⟩))
    case measure=>simp [intOf]
   ·have HP:=zh hp
    have HVF:=zh (show v=false by rw [← HV.out];unfold validB;simp [HP.out])
    rcases za5 (by simpa using hp)with h1 | ⟨h1,h2⟩
    all_goals
     clear hp
     go_wp2
     go_ret
     exact⟨by rw [HVF.out];rfl,rfl⟩
  ·have HVF:=zh (show v=true by rw [← HV.out];unfold validB;simp [H3.out])
   go_wp2
   go_ret
   exact⟨by rw [HVF.out];rfl,rfl⟩
def knownB (l:Int):Bool:=decide (0≤l∧l≤2)
end
section
open Go.Proofs.Tryz Go
def smallZ (c:Int):Bool:=decide (97≤c)&&decide (c≤122)
def capitalZ (c:Int):Bool:=decide (65≤c)&&decide (c≤90)
def digitZ (c:Int):Bool:=decide (48≤c)&&decide (c≤57)
def wordZ (c:Int):Bool:=smallZ c||capitalZ c||digitZ c||c == 95
def pathZ (c:Int):Bool:=smallZ c||digitZ c
def hexZ (c:Int):Int:=if digitZ c then c - 48 else if 97≤c∧c≤102 then c - 87 else -1
def allZ (p:Int→Bool)(s:ByteArray):Bool:=s.data.toList.all fun b=>p b.toNat
theorem z3s (p:Int→Bool)(s:ByteArray)(k:Nat)(h:k<s.size)(hp:(s.data.toList.take k).all (fun b=>p b.toNat)=true)(hb:p (s[k].toNat)=true) :
  (s.data.toList.take (k+1)).all (fun b=>p b.toNat)=true:=by
 rw [zs (by simpa using h)]
 simp only [List.all_append,hp,Bool.true_and,List.all_cons,List.all_nil,Bool.and_true]
 exact hb
theorem z4c (p:Int→Bool)(s:ByteArray)(k:Nat)(h:s.size≤k)(hp:(s.data.toList.take k).all (fun b=>p b.toNat)=true):allZ p s=true:=by
 rw [List.take_of_length_le (by simpa using h)]at hp;exact hp
theorem z6k (p:Int→Bool)(s:ByteArray)(k:Nat)(h:k<s.size)(hb:¬ p (s[k].toNat)=true):allZ p s=false:=by
 unfold allZ
 rw [List.all_eq_false]
 refine⟨s[k],?_,hb⟩
 exact Array.mem_toList_iff.2 (Array.getElem_mem _)
theorem zjm (ss:List ByteArray)(s:ByteArray)(k:Nat)(h:k<ss.length)(hp:(ss.take k).any (fun x=>x.toList == s.toList)=false)(hb:((ss.getD k ByteArray.empty).toList == s.toList)=false) :
  (ss.take (k+1)).any (fun x=>x.toList == s.toList)=false:=by
 rw [zs h,List.any_append,hp]
 have:ss.getD k ByteArray.empty=ss[k]:=by simp [h]
 rw [this]at hb
 simp only [List.any_cons,List.any_nil,hb,Bool.or_false]
theorem zjl (ss:List ByteArray)(s:ByteArray)(k:Nat)(h:ss.length≤k)(hp:(ss.take k).any (fun x=>x.toList == s.toList)=false):ss.any (fun x=>x.toList == s.toList)=false:=by
 rw [List.take_of_length_le h]at hp;exact hp
theorem zlq (ss:List ByteArray)(s:ByteArray)(k:Nat)(h:k<ss.length)(hb:((ss.getD k ByteArray.empty).toList == s.toList)=true):ss.any (fun x=>x.toList == s.toList)=true:=by
 rw [List.any_eq_true]
 have:ss.getD k ByteArray.empty=ss[k]:=by simp [h]
 rw [this]at hb
 exact⟨ss[k],List.getElem_mem h,hb⟩
def kwList:List ByteArray:=[⟨#[97,110,100]⟩,⟨#[97,110,121]⟩,⟨#[97,115]⟩,⟨#[98,111,111,108]⟩,⟨#[100,101,112,114,101,99,97,116,101,100]⟩,⟨#[101,108,115,101]⟩,⟨#[101,120,112,111,114,116]⟩,⟨#[102,97,108,115,101]⟩,⟨#[102,110]⟩,⟨#[102,111,108,100]⟩,⟨#[102,114,111,109]⟩,⟨#[105,102]⟩,⟨#[105,109,112,111,114,116]⟩,⟨#[105,110]⟩,⟨#[105,110,116]⟩,⟨#[108,101,110,103,116,104]⟩,⟨#[108,101,116]⟩,⟨#[108,105,115,116]⟩,⟨#[109,97,116,99,104]⟩,⟨#[109,111,100,117,108,101]⟩,⟨#[110,111,110,101]⟩,⟨#[110,111,116]⟩,⟨#[111,114]⟩,⟨#[116,101,120,116]⟩,⟨#[116,104,101,110]⟩,⟨#[116,114,117,101]⟩,⟨#[116,121,112,101]⟩,⟨#[117,115,101]⟩]
def symList:List ByteArray:=[⟨#[61,61,61]⟩,⟨#[58,58]⟩,⟨#[62,58]⟩,⟨#[60,58]⟩,⟨#[61,62]⟩,⟨#[61,61]⟩,⟨#[43,43]⟩,⟨#[40]⟩,⟨#[41]⟩,⟨#[91]⟩,⟨#[93]⟩,⟨#[123]⟩,⟨#[125]⟩,⟨#[60]⟩,⟨#[62]⟩,⟨#[44]⟩,⟨#[58]⟩,⟨#[61]⟩,⟨#[46]⟩,⟨#[43]⟩,⟨#[45]⟩,⟨#[42]⟩,⟨#[124]⟩,⟨#[63]⟩,⟨#[47]⟩]
def headZ (s:ByteArray):Int:=if h:0<s.size then((s[0]'h).toNat:Int) else 0
theorem z3v (s:ByteArray)(h:0<s.size):headZ s=((s[0]'h).toNat:Int):=by unfold headZ;rw [dif_pos h]
def kwS (s:ByteArray):Bool:=kwList.any fun x=>x.toList == s.toList
theorem kwS_eq (s:ByteArray):kwS s=kwList.any (fun x=>x.data.toList == s.data.toList):=by unfold kwS;simp only [ByteArray.toList_eq]
def nameS (s:ByteArray):Bool:=decide (1≤s.size)&&(decide (s.size≤32)&&(smallZ (headZ s)&&(allZ wordZ s&&!kwS s)))
def typeS (s:ByteArray):Bool:=decide (1≤s.size)&&(decide (s.size≤32)&&(capitalZ (headZ s)&&allZ wordZ s))
def kwText:List UInt8:=kwList.flatMap (fun b=>32::b.data.toList)++[32]
theorem kw_fin:∀ j,j<200→kwText[j]? = some 32→(kwText.drop (j+1)).contains 32=true→kwList.any (fun x=>x.data.toList == (kwText.drop (j+1)).takeWhile (· != 32))=true:=by decide +kernel
theorem kw_len:kwText.length<200:=by decide +kernel
theorem kw_all:kwList.all (fun x=>Lib.contains kwText (32::x.data.toList++[32]))=true:=by decide +kernel
theorem zmk (l r:List UInt8)(h:∀ b∈l,b≠32):(l++32::r).takeWhile (· != 32)=l:=by
 induction l with
 | nil=>simp
 | cons b l ih=>rw [List.cons_append,List.takeWhile_cons,if_pos (by simpa using h b (by simp)),ih (fun c hc=>h c (by simp [hc]))]
theorem zdb (l:List UInt8)(h:∀ b∈l,b≠32):Lib.contains kwText (32::l++[32])=kwList.any (fun x=>x.data.toList == l):=by
 rw [Bool.eq_iff_iff]
 constructor
 ·intro hc
  rcases Lib.index_spec kwText (32::l++[32])with ⟨h1,_⟩ | ⟨i,_,hi,ho,_⟩
  ·rw [Lib.contains,h1]at hc;exact absurd hc (by decide)
  ·simp only [Lib.occAt,List.isPrefixOf_iff_prefix]at ho
   obtain⟨r,hr⟩:=ho
   have e1:kwText.drop i=32::(l++32::r):=by rw [← hr];simp
   have e2:kwText.drop (i+1)=l++32::r:=by rw [← List.drop_drop,e1];rfl
   have e3:kwText[i]? = some 32:=by rw [← Nat.add_zero i,← List.getElem?_drop,e1];rfl
   have:=kw_fin i (by have:=kw_len;omega) e3 (by rw [e2];simp)
   rw [e2,zmk l r h]at this
   exact this
 ·intro hc
  rw [List.any_eq_true]at hc
  obtain⟨x,hx,he⟩:=hc
  have:=List.all_eq_true.1 kw_all x hx
  simp only [beq_iff_eq]at he
  rw [he]at this
  exact this
theorem z4b (s:ByteArray):s.toList=s.data.toList:=Lib.toList_data s
theorem zi9 (s:ByteArray)(h:1≤s.size):¬ s.toList=[]:=by
 rw [z4b];intro e;rw [Lib.size_eq,e]at h;exact absurd h (by decide)
theorem zex (s:ByteArray)(h:1≤s.size):s.toList.isEmpty=false:=by
 have:=zi9 s h;simpa using this
theorem zlm (s:ByteArray)(h:¬ 1≤s.size):s.toList=[]:=by
 rw [z4b];rw [Lib.size_eq]at h;exact List.length_eq_zero_iff.1 (by omega)
end
section
open Go.Proofs.Tryz Go Go.RowKit
theorem z0d {a b:Bool}(h:a=b):Ending.returned (.bool a)=Ending.returned (.bool b):=by rw [h]
theorem z5j {k:IntKind}{a b:Int}(h:a=b):Ending.returned (.int k a)=Ending.returned (.int k b):=by rw [h]
theorem z3q (c:Int)(w:World) :
  Calls prog 196 #[.int .u8 c] w fun e w'=>e=.returned (.bool (smallZ c))∧w=w':=by
 go_enter func196,ntmps196
 go_wp2
 all_goals go_ret
 all_goals exact⟨z0d (by simp [smallZ, *]<;>omega),rfl⟩
theorem zcv (c:Int)(w:World) :
  Calls prog 219 #[.int .u8 c] w fun e w'=>e=.returned (.bool (capitalZ c))∧w=w':=by
 go_enter func219,ntmps219
 go_wp2
 all_goals go_ret
 all_goals exact⟨z0d (by simp [capitalZ, *]<;>omega),rfl⟩
theorem z4i (c:Int)(w:World) :
  Calls prog 197 #[.int .u8 c] w fun e w'=>e=.returned (.bool (digitZ c))∧w=w':=by
 go_enter func197,ntmps197
 go_wp2
 all_goals go_ret
 all_goals exact⟨z0d (by simp [digitZ, *]<;>omega),rfl⟩
theorem zfi (c:Int)(w:World) :
  Calls prog 207 #[.int .u8 c] w fun e w'=>e=.returned (.bool (wordZ c))∧w=w':=by
 go_enter func207,ntmps207
 go_wp2_with (first
  | (go_at_call 196;refine(z3q _ _).mono ?_;rintro e w' ⟨rfl,rfl⟩)
  | (go_at_call 219;refine(zcv _ _).mono ?_;rintro e w' ⟨rfl,rfl⟩)
  | (go_at_call 197;refine(z4i _ _).mono ?_;rintro e w' ⟨rfl,rfl⟩))
 all_goals go_ret
 all_goals exact⟨z0d (by simp [wordZ, *]),rfl⟩
theorem z1g (c:Int)(w:World) :
  Calls prog 202 #[.int .u8 c] w fun e w'=>e=.returned (.bool (smallZ c))∧w=w':=by
 go_enter func202,ntmps202
 go_wp2
 all_goals go_ret
 all_goals exact⟨z0d (by simp [smallZ, *]<;>omega),rfl⟩
theorem zc7 (c:Int)(w:World) :
  Calls prog 236 #[.int .u8 c] w fun e w'=>e=.returned (.bool (capitalZ c))∧w=w':=by
 go_enter func236,ntmps236
 go_wp2
 all_goals go_ret
 all_goals exact⟨z0d (by simp [capitalZ, *]<;>omega),rfl⟩
theorem z1u (c:Int)(w:World) :
  Calls prog 203 #[.int .u8 c] w fun e w'=>e=.returned (.bool (digitZ c))∧w=w':=by
 go_enter func203,ntmps203
 go_wp2
 all_goals go_ret
 all_goals exact⟨z0d (by simp [digitZ, *]<;>omega),rfl⟩
theorem zcd (c:Int)(w:World) :
  Calls prog 222 #[.int .u8 c] w fun e w'=>e=.returned (.bool (wordZ c))∧w=w':=by
 go_enter func222,ntmps222
 go_wp2_with (first
  | (go_at_call 202;refine(z1g _ _).mono ?_;rintro e w' ⟨rfl,rfl⟩)
  | (go_at_call 236;refine(zc7 _ _).mono ?_;rintro e w' ⟨rfl,rfl⟩)
  | (go_at_call 203;refine(z1u _ _).mono ?_;rintro e w' ⟨rfl,rfl⟩))
 all_goals go_ret
 all_goals exact⟨z0d (by simp [wordZ, *]),rfl⟩
theorem z8n (c:Int)(w:World) :
  Calls prog 195 #[.int .u8 c] w fun e w'=>e=.returned (.bool (pathZ c))∧w=w':=by
 go_enter func195,ntmps195
 go_wp2_with (first
  | (go_at_call 196;refine(z3q _ _).mono ?_;rintro e w' ⟨rfl,rfl⟩)
  | (go_at_call 197;refine(z4i _ _).mono ?_;rintro e w' ⟨rfl,rfl⟩))
 all_goals go_ret
 all_goals exact⟨z0d (by simp [pathZ, *]),rfl⟩
end
section
open Go.Proofs.Tryz Go Go.RowKit
theorem zak (s:ByteArray)(w:World)(hs:s.size≤maxLen) :
  Calls prog 194 #[.string s,.func (.func 207) #[] #[]] w fun e w'=>e=.returned (.bool (allZ wordZ s))∧w=w':=by
 unfold maxLen at hs
 go_enter func194,ntmps194
 go_wp2
 go_loop [8] (fun i=>∃ k:Nat,k≤s.size∧i=.int .i64 k∧Hid ((s.data.toList.take k).all (fun b=>wordZ b.toNat)=true)) (fun i=>s.size - (intOf i).toNat)
 case atStart=>exact⟨0,Nat.zero_le _,rfl,zh rfl⟩
 case round =>
  obtain⟨k,hk,rfl,HA⟩:=hrel
  by_cases hlt:k<s.size
  ·cases hb:wordZ (s[k].toNat:Int)
   ·go_wp2_with (go_at_call 207;refine(zfi _ _).mono ?_;rintro e w' ⟨rfl,rfl⟩)
    go_ret
    exact⟨z0d (z6k _ s k hlt (by rw [hb];exact Bool.false_ne_true)).symm,rfl⟩
   ·go_wp2_with (go_at_call 207;refine(zfi _ _).mono ?_;rintro e w' ⟨rfl,rfl⟩)
    go_round
    case rel=>exact⟨k+1,by omega,by go_num,zh (z3s _ s k hlt HA.out hb)⟩
    case measure=>simp [intOf];omega
  ·go_wp2
   go_ret
   exact⟨z0d (z4c _ s k (by omega) HA.out).symm,rfl⟩
theorem z56 (s:ByteArray)(w:World)(hs:s.size≤maxLen) :
  Calls prog 194 #[.string s,.func (.func 197) #[] #[]] w fun e w'=>e=.returned (.bool (allZ digitZ s))∧w=w':=by
 unfold maxLen at hs
 go_enter func194,ntmps194
 go_wp2
 go_loop [8] (fun i=>∃ k:Nat,k≤s.size∧i=.int .i64 k∧Hid ((s.data.toList.take k).all (fun b=>digitZ b.toNat)=true)) (fun i=>s.size - (intOf i).toNat)
 case atStart=>exact⟨0,Nat.zero_le _,rfl,zh rfl⟩
 case round =>
  obtain⟨k,hk,rfl,HA⟩:=hrel
  by_cases hlt:k<s.size
  ·cases hb:digitZ (s[k].toNat:Int)
   ·go_wp2_with (go_at_call 197;refine(z4i _ _).mono ?_;rintro e w' ⟨rfl,rfl⟩)
    go_ret
    exact⟨z0d (z6k _ s k hlt (by rw [hb];exact Bool.false_ne_true)).symm,rfl⟩
   ·go_wp2_with (go_at_call 197;refine(z4i _ _).mono ?_;rintro e w' ⟨rfl,rfl⟩)
    go_round
    case rel=>exact⟨k+1,by omega,by go_num,zh (z3s _ s k hlt HA.out hb)⟩
    case measure=>simp [intOf];omega
  ·go_wp2
   go_ret
   exact⟨z0d (z4c _ s k (by omega) HA.out).symm,rfl⟩
theorem z6l (s:ByteArray)(w:World)(hs:s.size≤maxLen) :
  Calls prog 194 #[.string s,.func (.func 195) #[] #[]] w fun e w'=>e=.returned (.bool (allZ pathZ s))∧w=w':=by
 unfold maxLen at hs
 go_enter func194,ntmps194
 go_wp2
 go_loop [8] (fun i=>∃ k:Nat,k≤s.size∧i=.int .i64 k∧Hid ((s.data.toList.take k).all (fun b=>pathZ b.toNat)=true)) (fun i=>s.size - (intOf i).toNat)
 case atStart=>exact⟨0,Nat.zero_le _,rfl,zh rfl⟩
 case round =>
  obtain⟨k,hk,rfl,HA⟩:=hrel
  by_cases hlt:k<s.size
  ·cases hb:pathZ (s[k].toNat:Int)
   ·go_wp2_with (go_at_call 195;refine(z8n _ _).mono ?_;rintro e w' ⟨rfl,rfl⟩)
    go_ret
    exact⟨z0d (z6k _ s k hlt (by rw [hb];exact Bool.false_ne_true)).symm,rfl⟩
   ·go_wp2_with (go_at_call 195;refine(z8n _ _).mono ?_;rintro e w' ⟨rfl,rfl⟩)
    go_round
    case rel=>exact⟨k+1,by omega,by go_num,zh (z3s _ s k hlt HA.out hb)⟩
    case measure=>simp [intOf];omega
  ·go_wp2
   go_ret
   exact⟨z0d (z4c _ s k (by omega) HA.out).symm,rfl⟩
theorem zco (s:ByteArray)(w:World)(hs:s.size≤maxLen) :
  Calls prog 212 #[.string s] w fun e w'=>e=.returned (.bool (allZ wordZ s))∧w=w':=by
 unfold maxLen at hs
 go_enter func212,ntmps212
 go_wp2
 go_loop [3] (fun i=>∃ k:Nat,k≤s.size∧i=.int .i64 k∧Hid ((s.data.toList.take k).all (fun b=>wordZ b.toNat)=true)) (fun i=>s.size - (intOf i).toNat)
 case atStart=>exact⟨0,Nat.zero_le _,rfl,zh rfl⟩
 case round =>
  obtain⟨k,hk,rfl,HA⟩:=hrel
  by_cases hlt:k<s.size
  ·cases hb:wordZ (s[k].toNat:Int)
   ·go_wp2_with (go_at_call 222;refine(zcd _ _).mono ?_;rintro e w' ⟨rfl,rfl⟩)
    go_ret
    exact⟨z0d (z6k _ s k hlt (by rw [hb];exact Bool.false_ne_true)).symm,rfl⟩
   ·go_wp2_with (go_at_call 222;refine(zcd _ _).mono ?_;rintro e w' ⟨rfl,rfl⟩)
    go_round
    case rel=>exact⟨k+1,by omega,by go_num,zh (z3s _ s k hlt HA.out hb)⟩
    case measure=>simp [intOf];omega
  ·go_wp2
   go_ret
   exact⟨z0d (z4c _ s k (by omega) HA.out).symm,rfl⟩
end
section
open Go.Proofs.Tryz Go Go.RowKit
def MaxOk (w:World):Prop:=∃ m:Int,w.cell? ⟨0,0,none⟩=some (.int .i64 m)
theorem MaxOk.below {B:Nat}{w w':World}(h:MaxOk w)(hb:Below B w w')(hB:0<B):MaxOk w':=by
 obtain⟨m,hm⟩:=h
 exact⟨m,(hb.cell (p:=⟨0,0,none⟩) hB).trans hm⟩
theorem MaxOk.pos {w:World}(h:MaxOk w):0<w.heap.size:=by
 obtain⟨m,h⟩:=h
 unfold World.cell? at h
 rcases Nat.lt_or_ge 0 w.heap.size with hp | hp
 ·exact hp
 ·rw [Array.getElem?_eq_none hp]at h;exact absurd h (by simp)
theorem MaxOk.alloc {w:World}(h:MaxOk w)(o:Obj):MaxOk (w.alloc o):=h.below (B:=w.heap.size) ((Below.refl _ w).alloc (zq _) o) h.pos
theorem flip {P:Program}{f:FuncId}{a:Array Value}{w:World}{v:Value}(h:Calls P f a w fun e w'=>e=.returned v∧w'=w):Calls P f a w fun e w'=>e=.returned v∧w=w' :=
 h.mono fun _ _ ⟨h1,h2⟩=>⟨h1,h2.symm⟩
theorem z0t (s p:ByteArray)(w:World) :
  Calls prog 206 #[.string s,.string p] w fun e w'=>e=.returned (.tuple #[.string ⟨(Lib.trimPrefix s.data.toList p.data.toList).toArray⟩,.bool (Lib.hasPrefix s.data.toList p.data.toList)])∧w=w':=flip (Tryz.strings_CutPrefix s p w)
theorem zai (s sub:ByteArray)(w:World)(hs:s.size<4294967281)(hm:MaxOk w) :
  Calls prog 220 #[.string s,.string sub] w fun e w'=>e=.returned (.bool (Lib.contains s.data.toList sub.data.toList))∧w=w':=by
 obtain⟨m,hm⟩:=hm
 exact flip (Tryz.strings_Contains s sub m w hs hm)
theorem z3n {j k:IntKind}{a b c d:Int}(h:a=b)(h':c=d):Ending.returned (.tuple #[.int j a,.int k c])=Ending.returned (.tuple #[.int j b,.int k d]):=by rw [h,h']
theorem z7l {j:IntKind}{a b:Int}{c d:Bool}(h:a=b)(h':c=d):Ending.returned (.tuple #[.int j a,.bool c])=Ending.returned (.tuple #[.int j b,.bool d]):=by rw [h,h']
end
section
open Go.Proofs.Tryz Go Go.RowKit
def Mine (e size B:Nat)(v:Value)(n:Nat)(xs:List Value)(w:World):Prop:=w.ownsRow B e size v n xs∧B≤w.heap.size
theorem Mine.new (e size B:Nat)(n:Nat)(xs:List Value)(cs:Array Value)(w:World)(h:B≤w.heap.size)(hc:cs=xs.toArray)(hx:xs.length=n*size)(hn:n≤maxLen) :
  Hid (Mine e size B (.slice (some ⟨w.heap.size,0,none⟩) n n) n xs (w.alloc (.cells cs e))):=by
 subst hc
 refine zh ⟨?_,by simp;omega⟩
 have:=World.ownsRow_made (base:=B) (e:=e) (size:=size) w xs.toArray n h hn (by simpa using hx)
 refine⟨hx,.inr ⟨w.heap.size,n,xs.toArray,rfl,h,heap_alloc_new w _,zq _,hn,by simpa using hx,?_⟩⟩
 rw [← hx];simp
theorem Mine.below {e size B:Nat}{v:Value}{n:Nat}{xs:List Value}{w w':World}(h:Hid (Mine e size B v n xs w))(hb:Below w.heap.size w w'):Hid (Mine e size B v n xs w'):=by
 obtain⟨⟨h1,h2⟩,h3⟩:=h.out
 refine zh ⟨⟨h1,?_⟩,by have:=hb.size;omega⟩
 rcases h2 with h2 | ⟨g,cap,cur,hv,hg,hh,r⟩
 ·exact .inl h2
 ·exact .inr ⟨g,cap,cur,hv,hg,by rw [hb.block g (lt_of_block hh)];exact hh,r⟩
theorem Mine.shape {e size B:Nat}{v:Value}{n:Nat}{xs:List Value}{w:World}(h:Mine e size B v n xs w)(hn:0<n):∃ g cap,v=.slice (some ⟨g,0,none⟩) n cap:=by
 obtain⟨⟨h1,h2⟩,h3⟩:=h
 rcases h2 with ⟨_,h2⟩ | ⟨g,cap,cur,hv,_⟩
 ·omega
 ·exact⟨g,cap,hv⟩
theorem Mine.ge {e size B g cap:Nat}{n:Nat}{xs:List Value}{w:World}(h:Mine e size B (.slice (some ⟨g,0,none⟩) n cap) n xs w):B≤g∧g<w.heap.size:=h.1.lt g rfl
theorem Mine.cell {e size B g cap:Nat}{n:Nat}{xs:List Value}{w:World}(h:Mine e size B (.slice (some ⟨g,0,none⟩) n cap) n xs w)(j:Nat)(hj:j<n*size):w.cell? ⟨g,j,none⟩=xs[j]?:=h.1.cellAt j hj
theorem zm8 (w:World)(news:List Value)(e:TypeId):∀ j u,news[j]? = some u→(w.alloc (.cells news.toArray e)).cell? ((⟨w.heap.size,0,none⟩:Addr).add j)=some u:=by
 intro j u h
 have:((⟨w.heap.size,0,none⟩:Addr).add j)=⟨w.heap.size,j,none⟩:=by
  unfold Addr.add
  split
  ·rename_i h;subst h;rfl
  ·simp
 rw [this,World.cell?_alloc_at _ _ _ _ rfl]
 simpa using h
theorem zhx:(prog.info? 9).map (fun i=>(i.zero,i.size,i.bytes))=some (some (.string ⟨#[]⟩),1,16):=by kernel_rfl
theorem zjn {ops:Array Oper}{rest:List Oper}{o:Oper}{a:Act}{Q:Exit→Act→World→Prop}(w:World)(hgd:o.guard=none)(s x:Operand)
  (ho:o.op=.call { callee:=.builtin .append,args:=#[s,x],argTypes:=#[29,29] }) (B:Nat) (v:Value) (n:Nat) (xs:List Value) (hs:a.eval s=v) (hown:Hid (Mine 9 1 B v n xs w))
  (m:Nat) (news:List Value) (cs:Array Value) (hcs:cs=news.toArray) (hx:a.eval x=.slice (some ⟨w.heap.size,0,none⟩) m m) (hl:news.length=m*1) (h1:∀ u∈news,u.oneCell'=true) (hm:0<m) (hb:n+m≤4000000000)
  (h:∀ g cap w',Hid (Mine 9 1 B (.slice (some ⟨g,0,none⟩) (n+m) cap) (n+m) (xs++news) w')→Below B w w'→wpList prog ops Q rest (a.put o.dst (.slice (some ⟨g,0,none⟩) (n+m) cap)) w') :
  wpList prog ops Q (o::rest) a (w.alloc (.cells cs 9)):=by
 subst hcs
 obtain⟨i0,hi,hz0,hz1,hz2⟩:=info_parts zhx
 obtain⟨ho1,hB⟩:=hown.out
 refine wpList_append_own _ hgd s x 29 ho B 9 i0 (.string ⟨#[]⟩) 1 16 underlying29 hi hz0 hz1 hz2 rfl (by decide) v n xs hs (ho1.alloc _) ⟨w.heap.size,0,none⟩ m m news hx hl (zm8 w news _) h1 (by unfold maxLen;omega) (by omega) (by simp;omega) ?_
 intro v' w' hown' hgrow _
 have hbel:Below B w w':=((Below.refl B w).alloc hB _).grown hgrow (by simp;omega) (fun k hk=>(ho1.lt k hk).1)
 have hO:Mine 9 1 B v' (n+m) (xs++news) w':=⟨hown',by have:=hbel.size;omega⟩
 obtain⟨g,cap,rfl⟩:=hO.shape (by omega)
 exact h g cap w' (zh hO) hbel
theorem zjz (B:Nat)(v:Value)(l:List UInt8)(w:World)(h:Hid (Mine 5 1 B v l.length (Lib.byteCells l) w)) :
  (convert 236 9 v).run prog w=.ok (.string ⟨l.toArray⟩) w:=by
 obtain⟨⟨h1,h2⟩,h3⟩:=h.out
 rcases h2 with ⟨rfl,h2⟩ | ⟨g,cap,cur,rfl,hg,hh,hn,hm,hs,ht⟩
 ·have:l=[]:=List.length_eq_zero_iff.1 h2
  subst this
  rw [run_convert_bytes_string w 236 9 5 none 0 0 underlying236 underlying5 underlying9]
  rfl
 ·refine run_convert_bytes_back w 236 9 5 ⟨g,0,none⟩ cap l underlying236 underlying5 underlying9 (fun j hj=>?_)
  have ho:Mine 5 1 B (.slice (some ⟨g,0,none⟩) l.length cap) l.length (Lib.byteCells l) w:=⟨⟨h1,.inr ⟨g,cap,cur,rfl,hg,hh,hn,hm,hs,ht⟩⟩,h3⟩
  have:=ho.cell j (by omega)
  have e:((⟨g,0,none⟩:Addr).add j)=⟨g,j,none⟩:=by
   unfold Addr.add
   split
   ·rename_i h;subst h;rfl
   ·simp
  rw [e,this]
  simp [Lib.byteCells,hj]
end
section
open Go.Proofs.Tryz Go Go.RowKit
def TabOk (w : World) : Prop := Lib.TabIs prog w "internal/strconv.uint64pow10" .u64 Lib.pow10Tab
def decL (n:Int):List UInt8:=Lib.decDigits n.toNat
def fmtL (a b c:Int):List UInt8:=decL a++46::(decL b++46::decL c)
def formatV (a b c:Int):List UInt8×Int:=if validB a b c=true then(fmtL a b c,0) else([],2)
end
section
open Go.Proofs.Tryz Go Go.RowKit
theorem zlu (b off n cap:Nat)(ss:List ByteArray)(s:ByteArray)(w:World)(hn:n=ss.length)(hm:n≤9223372036854775807)
  (hc:∀ i,i<n→w.cell? ⟨b,off+i,none⟩=some (.string (ss.getD i ByteArray.empty))) :
  Calls prog 213 #[.slice (some ⟨b,off,none⟩) n cap,.string s] w fun e w'=>e=.returned (.bool (ss.any fun x=>x.toList == s.toList))∧w=w':=by
 have HN:=zh hn;clear hn
 go_enter func213,ntmps213
 go_wp2
 go_loop [5] (fun i=>∃ k:Nat,k≤n∧i=.int .i64 k∧Hid ((ss.take k).any (fun x=>x.toList == s.toList)=false)) (fun i=>n - (intOf i).toNat)
 case atStart=>exact⟨0,Nat.zero_le _,rfl,zh rfl⟩
 case round =>
  obtain⟨k,hk,rfl,HA⟩:=hrel
  by_cases hlt:k<n
  ·obtain⟨x,hx⟩:∃ x,x=ss.getD k ByteArray.empty:=⟨_,rfl⟩
   have hcx:w.cell? ⟨b,off+k,none⟩=some (.string x):=by rw [hx];exact hc k hlt
   have HX:=zh hx;clear hx hc
   cases hb:(x.toList == s.toList)
   ·go_wp2
    go_round
    case rel=>exact⟨k+1,by omega,by go_num,zh (zjm ss s k (by rw [← HN.out];exact hlt) HA.out (by rw [← HX.out];exact hb))⟩
    case measure=>simp [intOf];omega
   ·go_wp2
    go_ret
    exact⟨z0d (zlq ss s k (by rw [← HN.out];exact hlt) (by rw [← HX.out];exact hb)).symm,rfl⟩
  ·go_wp2
   go_ret
   exact⟨z0d (zjl ss s k (by rw [← HN.out];omega) HA.out).symm,rfl⟩
theorem z6s (w:World)(ss:List ByteArray)(t:TypeId)(i:Nat)(h:i<ss.length) :
  (w.alloc (.cells (ss.map Value.string).toArray t)).cell? ⟨w.heap.size,0+i,none⟩=some (.string (ss.getD i ByteArray.empty)):=by
 rw [World.cell?_alloc_at _ _ _ _ rfl]
 simp [h]
theorem zbe (w:World) :
  Calls prog 214 #[] w fun e w'=>e=.returned (.slice (some ⟨w.heap.size,0,none⟩) 28 28)∧w.alloc (.cells (kwList.map Value.string).toArray 9)=w':=by
 go_enter func214,ntmps214
 go_wp2
 go_ret
 exact⟨rfl,by simp [kwList]⟩
end
section
open Go.Proofs.Tryz Go Go.RowKit
theorem has_kw (s:ByteArray)(w:World) :
  Calls prog 213 #[.slice (some ⟨w.heap.size,0,none⟩) 28 28,.string s] (w.alloc (.cells (kwList.map Value.string).toArray 9)) fun e w'=>e=.returned (.bool (kwS s))∧(w.alloc (.cells (kwList.map Value.string).toArray 9))=w' :=
 zlu _ 0 28 28 kwList s _ rfl (by decide) (fun i hi=>z6s w kwList _ i hi)
theorem zdp (s:ByteArray)(w:World)(hs:s.size≤maxLen) :
  Calls prog 204 #[.string s] w fun e w'=>e=.returned (.bool (nameS s))∧Below w.heap.size w w':=by
 by_cases h1:1≤s.size
 ·have hh:=z3v s h1
  by_cases h2:s.size≤32
  ·cases h3:smallZ (s[0].toNat:Int)
   ·have HT:Hid (nameS s=false):=zh (by rw [← hh]at h3;simp [nameS,h3])
    clear hh
    go_enter func204,ntmps204
    go_wp2_with (first | (go_at_call 202;refine(z1g _ _).mono ?_;rintro e w' ⟨rfl,rfl⟩))
    go_ret
    exact⟨z0d HT.out.symm,Below.refl _ _⟩
   ·cases h4:allZ wordZ s
    ·have HT:Hid (nameS s=false):=zh (by simp [nameS,h4])
     clear hh
     go_enter func204,ntmps204
     go_wp2_with (first | (go_at_call 202;refine(z1g _ _).mono ?_;rintro e w' ⟨rfl,rfl⟩) | (go_at_call 212;refine(zco _ _ hs).mono ?_;rintro e w' ⟨rfl,rfl⟩))
     go_ret
     exact⟨z0d HT.out.symm,Below.refl _ _⟩
    ·have HT:Hid (nameS s=!kwS s):=zh (by rw [← hh]at h3;simp [nameS,h3,h1,h2,h4])
     clear hh
     go_enter func204,ntmps204
     go_wp2_with (first | (go_at_call 202;refine(z1g _ _).mono ?_;rintro e w' ⟨rfl,rfl⟩) | (go_at_call 212;refine(zco _ _ hs).mono ?_;rintro e w' ⟨rfl,rfl⟩) | (go_at_call 214;refine(zbe _).mono ?_;rintro e w' ⟨rfl,rfl⟩) | (go_at_call 213;refine(has_kw _ _).mono ?_;rintro e w' ⟨rfl,rfl⟩))
     go_ret
     exact⟨z0d HT.out.symm,(Below.refl _ _).alloc (zq _) _⟩
  ·have HT:Hid (nameS s=false):=zh (by simp [nameS,h2])
   go_enter func204,ntmps204
   go_wp2
   go_ret
   exact⟨z0d HT.out.symm,Below.refl _ _⟩
 ·have HT:Hid (nameS s=false):=zh (by simp [nameS,h1])
  go_enter func204,ntmps204
  go_wp2
  go_ret
  exact⟨z0d HT.out.symm,Below.refl _ _⟩
end
section
open Go.Proofs.Tryz Go Go.RowKit
theorem zmq (s:ByteArray)(h:allZ wordZ s=true):∀ b∈s.data.toList,b≠32:=by
 intro b hb e
 have:=List.all_eq_true.1 h b hb
 rw [e]at this
 exact absurd this (by decide)
theorem zda (s:ByteArray)(w:World)(hs:s.size≤1000000)(hm:MaxOk w)(hw:Hid (allZ wordZ s=true)) :
  Calls prog 208 #[.string s] w fun e w'=>e=.returned (.bool (kwS s))∧w=w':=by
 have HM:=zh hm;clear hm
 go_enter func208,ntmps208
 go_wp2_with fail
 refine(zai _ _ w (by decide) HM.out).mono ?_
 rintro e w' ⟨rfl,rfl⟩
 go_wp2
 go_ret
 refine⟨z0d ?_,rfl⟩
 rw [kwS_eq,← zdb s.data.toList (zmq s hw.out)]
 congr 1
theorem z55 (s:ByteArray)(w:World)(hs:s.size≤maxLen)(hm:MaxOk w) :
  Calls prog 193 #[.string s] w fun e w'=>e=.returned (.bool (nameS s))∧w=w':=by
 by_cases h1:1≤s.size
 ·have hh:=z3v s h1
  have he1:=zi9 s h1
  have he2:=zex s h1
  by_cases h2:s.size≤32
  ·cases h3:smallZ (s[0].toNat:Int)
   ·have HT:Hid (nameS s=false):=zh (by rw [← hh]at h3;simp [nameS,h3])
    clear hh
    go_enter func193,ntmps193
    go_wp2_with (first | (go_at_call 196;refine(z3q _ _).mono ?_;rintro e w' ⟨rfl,rfl⟩))
    go_ret
    exact⟨z0d HT.out.symm,rfl⟩
   ·cases h4:allZ wordZ s
    ·have HT:Hid (nameS s=false):=zh (by simp [nameS,h4])
     clear hh
     go_enter func193,ntmps193
     go_wp2_with (first | (go_at_call 196;refine(z3q _ _).mono ?_;rintro e w' ⟨rfl,rfl⟩) | (go_at_call 194;refine(zak _ _ hs).mono ?_;rintro e w' ⟨rfl,rfl⟩))
     go_ret
     exact⟨z0d HT.out.symm,rfl⟩
    ·have HT:Hid (nameS s=!kwS s):=zh (by rw [← hh]at h3;simp [nameS,h3,h1,h2,h4])
     have H4:=zh h4
     have hs2:s.size≤1000000:=by omega
     clear hh
     go_enter func193,ntmps193
     go_wp2_with (first | (go_at_call 196;refine(z3q _ _).mono ?_;rintro e w' ⟨rfl,rfl⟩) | (go_at_call 194;refine(zak _ _ hs).mono ?_;rintro e w' ⟨rfl,rfl⟩) | (go_at_call 208;refine(zda _ _ hs2 hm H4).mono ?_;rintro e w' ⟨rfl,rfl⟩))
     go_ret
     exact⟨z0d HT.out.symm,rfl⟩
  ·have HT:Hid (nameS s=false):=zh (by simp [nameS,h2])
   go_enter func193,ntmps193
   go_wp2
   go_ret
   exact⟨z0d HT.out.symm,rfl⟩
 ·have HT:Hid (nameS s=false):=zh (by simp [nameS,h1])
  have he1:s.toList=[]:=zlm s h1
  go_enter func193,ntmps193
  go_wp2
  go_ret
  exact⟨z0d HT.out.symm,rfl⟩
end
end Go.Proofs.YtapbhoodgnmnkaaGreatDoor
