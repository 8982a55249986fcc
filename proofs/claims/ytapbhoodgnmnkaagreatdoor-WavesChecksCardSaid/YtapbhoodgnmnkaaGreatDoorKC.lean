/- Laws and contracts. -/
import Derived.Test.YtapbhoodgnmnkaaGreatDoorKB
set_option linter.unusedVariables false
set_option linter.unusedSimpArgs false
set_option maxRecDepth 100000
set_option maxHeartbeats 32000000
namespace Go.Proofs.YtapbhoodgnmnkaaGreatDoor
open Go.Proofs.Tryz Go Go.RowKit
theorem zb8 (w1:World)(nv ev:Value):Below w1.heap.size w1 (w1.alloc (.cells #[nv,ev] 32))∧(w1.alloc (.cells #[nv,ev] 32)).heap[w1.heap.size]? = some (.cells #[nv,ev] 32 (0,0)):=⟨belQ w1 _,zn w1 _⟩
def HeldP49 (gx:Nat)(v iv:Value)(g:Nat)(a b:Value)(k:Nat)(c d:Value)(W:World):Prop:=W.cell? ⟨gx,0,none⟩=some v∧W.cell? ⟨gx,1,none⟩=some iv∧W.cell? ⟨g,0,none⟩=some a∧W.cell? ⟨g,1,none⟩=some b∧W.cell? ⟨k,0,none⟩=some c∧W.cell? ⟨k,1,none⟩=some d
structure FewP (L:List (List ByteArray)):Prop where
 len:L.length≤20
 all:∀ l∈L,l.length≤20∧∀ p∈l,p.size≤100
theorem FewP.flat:∀ {L:List (List ByteArray)},(∀ l∈L,l.length≤20∧∀ p∈l,p.size≤100)→L.flatten.length≤20*L.length∧∀ p∈L.flatten,p.size≤100
 | [],_=>by simp
 | l::L,h=>by
  obtain⟨h1,h2⟩:=h l (by simp)
  obtain⟨h3,h4⟩:=FewP.flat (L:=L) fun x hx=>h x (by simp [hx])
  rw [List.flatten_cons,List.length_append,List.length_cons]
  refine⟨by omega,fun p hp=>?_⟩
  rcases List.mem_append.1 hp with hp | hp
  ·exact h2 p hp
  ·exact h4 p hp
theorem zk1 (v:Value)(L:List (List ByteArray))(w:World)(hl:L.length≤9223372036854775807)(hr:∀ l∈L,l.length≤9223372036854775807)(hL:NamesOf w.heap.size v L w) :
  Calls prog 18 #[v] w fun e w'=>∃ b:Bool,e=.returned (.bool b)∧(b=true→FewP L)∧w'=w:=by
 have HNM:=zh hL
 have HRL:=zh hr
 obtain⟨la,lc,rfl⟩:=zo hL
 clear hL hr
 have HLN:=zh (z4p la L.length lc w)
 go_enter func18,ntmps18
 go_wp2_with fail
 go_loopw [3] (fun p wr=>Hid (∃ k:Nat,k≤L.length∧p=.int .i64 (k:Int)∧∀ l∈L.take k,l.length≤20∧∀ p∈l,p.size≤100)∧wr=w) (fun p _=>L.length - (intOf p).toNat)
 case atStart=>exact⟨zh ⟨0,Nat.zero_le _,rfl,by simp⟩,rfl⟩
 case round =>
  obtain⟨hr,hww⟩:=hrel
  obtain⟨k,hk,rfl,ha⟩:=hr.out
  have HA:=zh ha
  clear hr ha
  subst hww
  have hln:=HLN.out
  by_cases hlt:k<L.length
  case neg =>
   have hk2:k=L.length:=Nat.le_antisymm hk (Nat.le_of_not_lt hlt)
   have HAL:Hid (∀ l∈L,l.length≤20∧∀ p∈l,p.size≤100):=zh (fun l hx=>HA.out l (by rw [hk2,List.take_length];exact hx))
   clear HA hk2
   by_cases h20:L.length≤20
   ·have h20a:(L.length:Int)≤20:=by omega
    have h20b:decide ((L.length:Int)≤20)=true:=decide_eq_true h20a
    go_wp2_with fail
    try rw [hln]
    go_wp2_with fail
    try rw [hln]
    go_wp2_with fail
    go_ret
    exact⟨true,by first | rfl | simp [h20b],fun _=>⟨h20,HAL.out⟩,rfl⟩
   ·have h20a:¬ (L.length:Int)≤20:=by omega
    have h20b:decide ((L.length:Int)≤20)=false:=decide_eq_false h20a
    go_wp2_with fail
    try rw [hln]
    go_wp2_with fail
    try rw [hln]
    go_wp2_with fail
    go_ret
    exact .inl ⟨rfl,rfl⟩
  case pos =>
   have hk0:(0:Int)≤(k:Int):=Int.natCast_nonneg k
   have hkz:(k:Int)<(L.length:Int):=Int.ofNat_lt.2 hlt
   obtain⟨b,off,r,rfl,d0,hrow⟩:=za2 HNM.out (Below.refl _ _) hlt
   have HT:Hid (L.take (k+1)=L.take k++[L[k]]):=zh (zs hlt)
   have hq9:=HRL.out _ (List.getElem_mem hlt)
   generalize L[k]=row at *
   obtain⟨ra,rc,rfl,_⟩:=z01 hrow
   have HRW:=zh hrow
   clear hrow
   by_cases h1:row.length≤20
   case neg =>
    have h1a:(20:Int)<(row.length:Int):=by omega
    have h1b:decide ((20:Int)<(row.length:Int))=true:=decide_eq_true h1a
    go_wp2_with fail
    try rw [hln]
    go_wp2_with fail
    go_ret
    exact⟨false,rfl,fun h=>(by cases h),rfl⟩
   have h1a:¬ (20:Int)<(row.length:Int):=by omega
   have h1b:decide ((20:Int)<(row.length:Int))=false:=decide_eq_false h1a
   go_wp2_with fail
   try rw [hln]
   go_wp2_with fail
   obtain⟨wo,hwo⟩:∃ wo,wr=wo:=⟨_,rfl⟩
   replace hwo:=hwo.symm
   subst hwo
   go_loopw [4] (fun p wr=>Hid (∃ j:Nat,j≤row.length∧p=.int .i64 (j:Int)∧∀ p∈row.take j,p.size≤100)∧wr=wo) (fun p _=>row.length - (intOf p).toNat)
   case atStart=>exact⟨zh ⟨0,Nat.zero_le _,rfl,by simp⟩,rfl⟩
   case round =>
    obtain⟨hr,hww⟩:=hrel
    obtain⟨j,hj,rfl,hb⟩:=hr.out
    have HBJ:=zh hb
    clear hr hb
    subst hww
    by_cases hjl:j<row.length
    case neg =>
     have hj2:j=row.length:=Nat.le_antisymm hj (Nat.le_of_not_lt hjl)
     have HA2:=zh (show ∀ l∈L.take (k+1),l.length≤20∧∀ p∈l,p.size≤100 from fun l hx=>by
      rw [HT.out]at hx
      rcases List.mem_append.1 hx with hx | hx
      ·exact HA.out l hx
      ·rw [List.mem_singleton.1 hx]
       exact⟨h1,fun p hp=>HBJ.out p (by rw [hj2,List.take_length];exact hp)⟩)
     clear hj2 HBJ
     go_wp2_with fail
     all_goals
      refine⟨⟨zh ⟨k+1,hlt,by go_num,HA2.out⟩,by trivial⟩,?_⟩
      simp [intOf];omega
    case pos =>
     have hj0:(0:Int)≤(j:Int):=Int.natCast_nonneg j
     have hjz:(j:Int)<(row.length:Int):=Int.ofNat_lt.2 hjl
     have hcell:∃ b2 off2,ra=some ⟨b2,off2,none⟩∧wr.cell? ⟨b2,off2+j,none⟩=some (.string row[j]):=by
      rcases HRW.out with ⟨h0,_⟩ | ⟨b2,off2,c2,e,_,h⟩
      ·rw [h0]at hjl;simp at hjl
      ·cases e
       exact⟨b2,off2,rfl,h j _ (ze hjl)⟩
     obtain⟨b2,off2,rfl,d1⟩:=hcell
     have HT2:Hid (row.take (j+1)=row.take j++[row[j]]):=zh (zs hjl)
     generalize row[j]=p at *
     by_cases h2:p.size≤100
     case neg =>
      have h2a:(100:Int)<(p.size:Int):=by omega
      have h2b:decide ((100:Int)<(p.size:Int))=true:=decide_eq_true h2a
      go_wp2_with fail
      go_ret
      exact⟨false,rfl,fun h=>(by cases h),rfl⟩
     have h2a:¬ (100:Int)<(p.size:Int):=by omega
     have h2b:decide ((100:Int)<(p.size:Int))=false:=decide_eq_false h2a
     have HB2:=zh (show ∀ x∈row.take (j+1),x.size≤100 from fun x hx=>by
      rw [HT2.out]at hx
      rcases List.mem_append.1 hx with hx | hx
      ·exact HBJ.out x hx
      ·rw [List.mem_singleton.1 hx];exact h2)
     go_wp2_with fail
     all_goals
      refine⟨⟨zh ⟨j+1,by omega,by go_num,HB2.out⟩,by trivial⟩,?_⟩
      simp [intOf];omega
end Go.Proofs.YtapbhoodgnmnkaaGreatDoor
