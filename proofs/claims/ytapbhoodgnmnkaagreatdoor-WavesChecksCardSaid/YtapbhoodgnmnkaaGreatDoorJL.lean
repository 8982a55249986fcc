/- Laws and contracts. -/
import Derived.Test.YtapbhoodgnmnkaaGreatDoorJK
set_option linter.unusedVariables false
set_option linter.unusedSimpArgs false
set_option maxRecDepth 100000
set_option maxHeartbeats 32000000
namespace Go.Proofs.YtapbhoodgnmnkaaGreatDoor
open Go.Proofs.Tryz Go Go.RowKit
def afterOk (md:Region.Mode)(ops:Array Oper)(listed:Array Bool)(i:Nat):Bool:=((ops[i]?).map (·.after.all fun e=>!Region.binds md e||listed.getD e.on false)).getD false
theorem z5i {md:Region.Mode}{ops:Array Oper}{listed:Array Bool}{i:Nat}(h:i∈Region.ready md ops listed):i<ops.size∧listed.getD i true=false∧afterOk md ops listed i=true:=by
 unfold Region.ready at h
 obtain⟨h1,h2⟩:=List.mem_filter.1 h
 rw [Bool.and_eq_true]at h2
 exact⟨List.mem_range.1 h1,by simpa using h2.1,h2.2⟩
theorem z13 {md:Region.Mode}{ops:Array Oper}{listed:Array Bool}(h:Region.ready md ops listed=[])(i:Nat)(ha:afterOk md ops listed i=true):listed.getD i true=true:=by
 cases hb:listed.getD i true with
 | true=>rfl
 | false =>
  have:i∈Region.ready md ops listed:=by
   unfold Region.ready
   refine List.mem_filter.2 ⟨List.mem_range.2 ?_,?_⟩
   ·unfold afterOk at ha
    cases e:ops[i]? with
    | none=>rw [e]at ha;cases ha
    | some o=>exact(zb e)
   ·rw [hb];exact ha
  rw [h]at this
  cases this
theorem z9b {P:Program}{md:Region.Mode}{ops:Array Oper}{Q:Exit→Act→World→Prop}{S:World→Prop}(J:Array Bool→Act→World→Prop)
  (step:∀ listed a w i,J listed a w→i∈Region.ready md ops listed→wpOp P ops Q i (fun a' w'=>S w'∧J (listed.setIfInBounds i true) a' w') a w)
  (fin:∀ listed a w,J listed a w→Region.ready md ops listed=[]→Q .normal a w):∀ fuel listed a w,unseen listed.toList≤fuel→J listed a w→wpAnyH P md ops Q S fuel listed a w
 | 0,listed,a,w,hu,hJ=>by
  have hr:Region.ready md ops listed=[]:=by
   rcases hl:Region.ready md ops listed with _ | ⟨i,r⟩
   ·rfl
   ·have hi:i∈Region.ready md ops listed:=by rw [hl];simp
    have h1:=(z5i hi).2.1
    have h2:listed.toList[i]? = some false:=by
     rw [Array.getElem?_toList]
     rw [Array.getD_eq_getD_getElem?]at h1
     cases e:listed[i]? with
     | none=>rw [e]at h1;cases h1
     | some b=>rw [e]at h1;simp at h1;rw [h1]
    have:=z5l _ _ h2
    omega
  exact⟨hr,fin _ _ _ hJ hr⟩
 | fuel+1,listed,a,w,hu,hJ=>by
  refine⟨fin _ _ _ hJ,fun i hi=>wpOp_mono (fun a' w' h=>⟨h.1,?_⟩) (step _ _ _ _ hJ hi)⟩
  refine z9b J step fin fuel _ _ _ ?_ h.2
  have h1:=(z5i hi).2.1
  have h2:listed.toList[i]? = some false:=by
   rw [Array.getElem?_toList]
   rw [Array.getD_eq_getD_getElem?]at h1
   cases e:listed[i]? with
   | none=>rw [e]at h1;cases h1
   | some b=>rw [e]at h1;simp at h1;rw [h1]
  have:=z5l _ _ h2
  rw [Array.toList_setIfInBounds]
  omega
theorem za7 {P:Program}{id:Nat}{ops:Array Oper}{Q:Exit→Act→World→Prop}{a:Act}{w:World}{S:World→Prop}(hm:P.follows .mixedOrders=true)
  (h:wpAnyH P .any ops (NoPanic Q) S ops.size (Array.replicate ops.size false) a w.drew):(Code.region id ops true).wp P Q a w :=
 wp_region_noPanic (wp_region_held hm h)
theorem z1k {P:Program}{ops:Array Oper}{Q:Exit→Act→World→Prop}{i:Nat}{o:Oper}{K:Act→World→Prop}{a:Act}{w:World}(ho:ops[i]? = some o)
  (h:∀ K':Act→World→Prop,Hid (∀ a w,K a w→K' a w)→if Region.wanted o (yielded ops a.tmps)=true then Oper.wp P o a w K' Q else K' (a.put o.dst undef) w):wpOp P ops Q i K a w :=
 wpOp_step ho fun K' hK=>h K' (zh hK)
def Ent (B:Nat)(w:World)(l:Bool)(s:Value)(b:Nat)(val:Nat→Value)(o:Obj):Prop:=l=true→s=val b∧B≤b∧w.heap[b]? = some o
theorem Ent.keep {B:Nat}{w w':World}{l:Bool}{s:Value}{b:Nat}{val:Nat→Value}{o:Obj}(h:Ent B w l s b val o)(hk:∀ k,k<w.heap.size→w'.heap[k]? = w.heap[k]?):Ent B w' l s b val o:=fun hl=>by
 obtain⟨h1,h2,h3⟩:=h hl
 exact⟨h1,h2,(hk b (zb h3)).trans h3⟩
theorem Ent.other {B:Nat}{w:World}{l:Bool}{s:Value}{b:Nat}{val:Nat→Value}{o:Obj}(h:Ent B w l s b val o)(c:Nat)(x:Value)(hne:l=true→b≠c):Ent B (w.setCell ⟨c,0,none⟩ x) l s b val o:=fun hl=>by
 obtain⟨h1,h2,h3⟩:=h hl
 exact⟨h1,h2,(heap_setCell_other _ _ _ _ (hne hl)).trans h3⟩
theorem Ent.lt {B:Nat}{w:World}{l:Bool}{s:Value}{b:Nat}{val:Nat→Value}{o:Obj}(h:Ent B w l s b val o)(hl:l=true):b<w.heap.size:=(Array.getElem?_eq_some_iff.1 (h hl).2.2).1
def Dis (l l':Bool)(b b':Nat):Prop:=l=true→l'=true→b≠b'
abbrev slOf (N:Nat)(b:Nat):Value:=.slice (some ⟨b,0,none⟩) N N
abbrev ptrOf (b:Nat):Value:=.pointer (some ⟨b,0,none⟩)
abbrev boxO (t:Nat)(x:Value):Obj:=.cells #[x] t (0,0)
structure NumJ (B N:Nat)(w0 w:World)(l2 l5 l6 l9 l10 l11 l12 l13 l14 l15:Bool)(s4 s5 s6 s14 s17 s18 s21:Value)(g1 g2 gb gr b4 b5 b6:Nat):Prop where
 bel:Below B w0 w
 hB:B≤w.heap.size
 m1:Ent B w l2 s14 g1 (slOf N) (.cells (Array.replicate N (.int .i64 0)) 3 (0,0))
 m2:Ent B w l5 s17 g2 (slOf N) (.cells (Array.replicate N (.int .i64 0)) 3 (0,0))
 mb:Ent B w l6 s18 gb (slOf 1) (.cells #[.int .i64 (-1)] 3 (0,0))
 mr:Ent B w l9 s21 gr (slOf N) (.cells (List.replicate N (intC (-1))).toArray 3 (0,0))
 a4:Ent B w l10 s4 b4 ptrOf (boxO 109 (if l13 then s14 else .slice none 0 0))
 a5:Ent B w l11 s5 b5 ptrOf (boxO 109 (if l14 then s17 else .slice none 0 0))
 a6:Ent B w l12 s6 b6 ptrOf (boxO 109 (if l15 then s21 else .slice none 0 0))
 d12:Dis l2 l5 g1 g2
 d1r:Dis l2 l9 g1 gr
 d2r:Dis l5 l9 g2 gr
 d45:Dis l10 l11 b4 b5
 d46:Dis l10 l12 b4 b6
 d56:Dis l11 l12 b5 b6
 o13:l13=true→l2=true∧l10=true
 o14:l14=true→l5=true∧l11=true
 o15:l15=true→l9=true∧l12=true
theorem NumJ.start (B N:Nat)(w0 w:World)(hb:Below B w0 w)(hB:B≤w.heap.size):NumJ B N w0 w false false false false false false false false false false undef undef undef undef undef undef undef 0 0 0 0 0 0 0:=by
 refine⟨hb,hB,?_,?_,?_,?_,?_,?_,?_,?_,?_,?_,?_,?_,?_,?_,?_,?_⟩<;>(intro h;cases h)
theorem z09 {w w':World}(h:Below w.heap.size w w'):∀ k,k<w.heap.size→w'.heap[k]? = w.heap[k]?:=h.block
theorem z0v (w:World)(o:Obj):Below w.heap.size w (w.alloc o):=(Below.refl _ _).alloc (zq _) o
section
variable {B N:Nat} {w0 w:World} {l2 l5 l6 l9 l10 l11 l12 l13 l14 l15:Bool} {s4 s5 s6 s14 s17 s18 s21:Value} {g1 g2 gb gr b4 b5 b6:Nat}
theorem NumJ.mk1 (h:NumJ B N w0 w false l5 l6 l9 l10 l11 l12 l13 l14 l15 s4 s5 s6 s14 s17 s18 s21 g1 g2 gb gr b4 b5 b6){w':World}{g:Nat}(hg:w.heap.size≤g)(hb:Below w.heap.size w w')(hc:w'.heap[g]? = some (Obj.cells (Array.replicate N (.int .i64 0)) 3 (0,0))):NumJ B N w0 w' true l5 l6 l9 l10 l11 l12 l13 l14 l15 s4 s5 s6 (slOf N g) s17 s18 s21 g g2 gb gr b4 b5 b6:=by
 refine⟨(h.bel.trans (hb.mono h.hB)),(Nat.le_trans h.hB hb.size),?_,(h.m2.keep (z09 hb)),(h.mb.keep (z09 hb)),(h.mr.keep (z09 hb)),?_,(h.a5.keep (z09 hb)),(h.a6.keep (z09 hb)),(fun _ hl=>by have:=h.m2.lt hl;omega),(fun _ hl=>by have:=h.mr.lt hl;omega),h.d2r,h.d45,h.d46,h.d56,(fun hl=>⟨rfl,(h.o13 hl).2⟩),h.o14,h.o15⟩
 ·exact fun _=>⟨rfl,Nat.le_trans h.hB hg,hc⟩
 ·have h2:=h.a4.keep (z09 hb)
  cases l13 with
  | false=>exact h2
  | true=>exact absurd (h.o13 rfl).1 (by decide)
theorem NumJ.mk2 (h:NumJ B N w0 w l2 false l6 l9 l10 l11 l12 l13 l14 l15 s4 s5 s6 s14 s17 s18 s21 g1 g2 gb gr b4 b5 b6){w':World}{g:Nat}(hg:w.heap.size≤g)(hb:Below w.heap.size w w')(hc:w'.heap[g]? = some (Obj.cells (Array.replicate N (.int .i64 0)) 3 (0,0))):NumJ B N w0 w' l2 true l6 l9 l10 l11 l12 l13 l14 l15 s4 s5 s6 s14 (slOf N g) s18 s21 g1 g gb gr b4 b5 b6:=by
 refine⟨(h.bel.trans (hb.mono h.hB)),(Nat.le_trans h.hB hb.size),(h.m1.keep (z09 hb)),?_,(h.mb.keep (z09 hb)),(h.mr.keep (z09 hb)),(h.a4.keep (z09 hb)),?_,(h.a6.keep (z09 hb)),(fun hl _=>by have:=h.m1.lt hl;omega),h.d1r,(fun _ hl=>by have:=h.mr.lt hl;omega),h.d45,h.d46,h.d56,h.o13,(fun hl=>⟨rfl,(h.o14 hl).2⟩),h.o15⟩
 ·exact fun _=>⟨rfl,Nat.le_trans h.hB hg,hc⟩
 ·have h2:=h.a5.keep (z09 hb)
  cases l14 with
  | false=>exact h2
  | true=>exact absurd (h.o14 rfl).1 (by decide)
theorem NumJ.mkb (h:NumJ B N w0 w l2 l5 false l9 l10 l11 l12 l13 l14 l15 s4 s5 s6 s14 s17 s18 s21 g1 g2 gb gr b4 b5 b6){w':World}{g:Nat}(hg:w.heap.size≤g)(hb:Below w.heap.size w w')(hc:w'.heap[g]? = some (Obj.cells #[.int .i64 (-1)] 3 (0,0))):NumJ B N w0 w' l2 l5 true l9 l10 l11 l12 l13 l14 l15 s4 s5 s6 s14 s17 (slOf 1 g) s21 g1 g2 g gr b4 b5 b6:=by
 refine⟨(h.bel.trans (hb.mono h.hB)),(Nat.le_trans h.hB hb.size),(h.m1.keep (z09 hb)),(h.m2.keep (z09 hb)),?_,(h.mr.keep (z09 hb)),(h.a4.keep (z09 hb)),(h.a5.keep (z09 hb)),(h.a6.keep (z09 hb)),h.d12,h.d1r,h.d2r,h.d45,h.d46,h.d56,h.o13,h.o14,h.o15⟩
 exact fun _=>⟨rfl,Nat.le_trans h.hB hg,hc⟩
theorem NumJ.mkr (h:NumJ B N w0 w l2 l5 l6 false l10 l11 l12 l13 l14 l15 s4 s5 s6 s14 s17 s18 s21 g1 g2 gb gr b4 b5 b6){w':World}{g:Nat}(hg:w.heap.size≤g)(hb:Below w.heap.size w w')(hc:w'.heap[g]? = some (Obj.cells (List.replicate N (intC (-1))).toArray 3 (0,0))):NumJ B N w0 w' l2 l5 l6 true l10 l11 l12 l13 l14 l15 s4 s5 s6 s14 s17 s18 (slOf N g) g1 g2 gb g b4 b5 b6:=by
 refine⟨(h.bel.trans (hb.mono h.hB)),(Nat.le_trans h.hB hb.size),(h.m1.keep (z09 hb)),(h.m2.keep (z09 hb)),(h.mb.keep (z09 hb)),?_,(h.a4.keep (z09 hb)),(h.a5.keep (z09 hb)),?_,h.d12,(fun hl _=>by have:=h.m1.lt hl;omega),(fun hl _=>by have:=h.m2.lt hl;omega),h.d45,h.d46,h.d56,h.o13,h.o14,(fun hl=>⟨rfl,(h.o15 hl).2⟩)⟩
 ·exact fun _=>⟨rfl,Nat.le_trans h.hB hg,hc⟩
 ·have h2:=h.a6.keep (z09 hb)
  cases l15 with
  | false=>exact h2
  | true=>exact absurd (h.o15 rfl).1 (by decide)
theorem NumJ.al4 (h:NumJ B N w0 w l2 l5 l6 l9 false l11 l12 l13 l14 l15 s4 s5 s6 s14 s17 s18 s21 g1 g2 gb gr b4 b5 b6){w':World}{g:Nat}(hg:w.heap.size≤g)(hb:Below w.heap.size w w')(hc:w'.heap[g]? = some (boxO 109 (.slice none 0 0))):NumJ B N w0 w' l2 l5 l6 l9 true l11 l12 l13 l14 l15 (ptrOf g) s5 s6 s14 s17 s18 s21 g1 g2 gb gr g b5 b6:=by
 refine⟨(h.bel.trans (hb.mono h.hB)),(Nat.le_trans h.hB hb.size),(h.m1.keep (z09 hb)),(h.m2.keep (z09 hb)),(h.mb.keep (z09 hb)),(h.mr.keep (z09 hb)),?_,(h.a5.keep (z09 hb)),(h.a6.keep (z09 hb)),h.d12,h.d1r,h.d2r,(fun _ hl=>by have:=h.a5.lt hl;omega),(fun _ hl=>by have:=h.a6.lt hl;omega),h.d56,(fun hl=>⟨(h.o13 hl).1,rfl⟩),h.o14,h.o15⟩
 intro _
 refine⟨rfl,Nat.le_trans h.hB hg,?_⟩
 cases l13 with
 | false=>exact hc
 | true=>exact absurd (h.o13 rfl).2 (by decide)
theorem NumJ.al5 (h:NumJ B N w0 w l2 l5 l6 l9 l10 false l12 l13 l14 l15 s4 s5 s6 s14 s17 s18 s21 g1 g2 gb gr b4 b5 b6){w':World}{g:Nat}(hg:w.heap.size≤g)(hb:Below w.heap.size w w')(hc:w'.heap[g]? = some (boxO 109 (.slice none 0 0))):NumJ B N w0 w' l2 l5 l6 l9 l10 true l12 l13 l14 l15 s4 (ptrOf g) s6 s14 s17 s18 s21 g1 g2 gb gr b4 g b6:=by
 refine⟨(h.bel.trans (hb.mono h.hB)),(Nat.le_trans h.hB hb.size),(h.m1.keep (z09 hb)),(h.m2.keep (z09 hb)),(h.mb.keep (z09 hb)),(h.mr.keep (z09 hb)),(h.a4.keep (z09 hb)),?_,(h.a6.keep (z09 hb)),h.d12,h.d1r,h.d2r,(fun hl _=>by have:=h.a4.lt hl;omega),h.d46,(fun _ hl=>by have:=h.a6.lt hl;omega),h.o13,(fun hl=>⟨(h.o14 hl).1,rfl⟩),h.o15⟩
 intro _
 refine⟨rfl,Nat.le_trans h.hB hg,?_⟩
 cases l14 with
 | false=>exact hc
 | true=>exact absurd (h.o14 rfl).2 (by decide)
theorem NumJ.al6 (h:NumJ B N w0 w l2 l5 l6 l9 l10 l11 false l13 l14 l15 s4 s5 s6 s14 s17 s18 s21 g1 g2 gb gr b4 b5 b6){w':World}{g:Nat}(hg:w.heap.size≤g)(hb:Below w.heap.size w w')(hc:w'.heap[g]? = some (boxO 109 (.slice none 0 0))):NumJ B N w0 w' l2 l5 l6 l9 l10 l11 true l13 l14 l15 s4 s5 (ptrOf g) s14 s17 s18 s21 g1 g2 gb gr b4 b5 g:=by
 refine⟨(h.bel.trans (hb.mono h.hB)),(Nat.le_trans h.hB hb.size),(h.m1.keep (z09 hb)),(h.m2.keep (z09 hb)),(h.mb.keep (z09 hb)),(h.mr.keep (z09 hb)),(h.a4.keep (z09 hb)),(h.a5.keep (z09 hb)),?_,h.d12,h.d1r,h.d2r,h.d45,(fun hl _=>by have:=h.a4.lt hl;omega),(fun hl _=>by have:=h.a5.lt hl;omega),h.o13,h.o14,(fun hl=>⟨(h.o15 hl).1,rfl⟩)⟩
 intro _
 refine⟨rfl,Nat.le_trans h.hB hg,?_⟩
 cases l15 with
 | false=>exact hc
 | true=>exact absurd (h.o15 rfl).2 (by decide)
theorem z0l {W:World}{a b t u:Nat}{xs ys:Array Value}{f g:Nat×Nat}(h:W.heap[a]? = some (.cells xs t f))(k:W.heap[b]? = some (.cells ys u g))(ht:t≠u):a≠b:=fun e=>by
 subst e
 rw [h]at k
 cases k
 exact ht rfl
theorem NumJ.st13 (h:NumJ B N w0 w l2 l5 l6 l9 l10 l11 l12 false l14 l15 s4 s5 s6 s14 s17 s18 s21 g1 g2 gb gr b4 b5 b6)(hs:l2=true)(hb:l10=true):NumJ B N w0 (w.setCell ⟨b4,0,none⟩ s14) l2 l5 l6 l9 l10 l11 l12 true l14 l15 s4 s5 s6 s14 s17 s18 s21 g1 g2 gb gr b4 b5 b6:=by
 refine⟨(h.bel.setCell (by exact(h.a4 hb).2.1) _),(by rw [World.size_setCell];exact h.hB),(h.m1.other _ _ (fun hl=>z0l (h.m1 hl).2.2 (h.a4 hb).2.2 (by decide))),(h.m2.other _ _ (fun hl=>z0l (h.m2 hl).2.2 (h.a4 hb).2.2 (by decide))),(h.mb.other _ _ (fun hl=>z0l (h.mb hl).2.2 (h.a4 hb).2.2 (by decide))),(h.mr.other _ _ (fun hl=>z0l (h.mr hl).2.2 (h.a4 hb).2.2 (by decide))),?_,(h.a5.other _ _ (fun hl=>(Ne.symm (h.d45 hb hl)))),(h.a6.other _ _ (fun hl=>(Ne.symm (h.d46 hb hl)))),h.d12,h.d1r,h.d2r,h.d45,h.d46,h.d56,(fun _=>⟨hs,hb⟩),h.o14,h.o15⟩
 exact fun _=>⟨(h.a4 hb).1,(h.a4 hb).2.1,heap_setCell_same w b4 0 _ _ s14 (h.a4 hb).2.2⟩
theorem NumJ.st14 (h:NumJ B N w0 w l2 l5 l6 l9 l10 l11 l12 l13 false l15 s4 s5 s6 s14 s17 s18 s21 g1 g2 gb gr b4 b5 b6)(hs:l5=true)(hb:l11=true):NumJ B N w0 (w.setCell ⟨b5,0,none⟩ s17) l2 l5 l6 l9 l10 l11 l12 l13 true l15 s4 s5 s6 s14 s17 s18 s21 g1 g2 gb gr b4 b5 b6:=by
 refine⟨(h.bel.setCell (by exact(h.a5 hb).2.1) _),(by rw [World.size_setCell];exact h.hB),(h.m1.other _ _ (fun hl=>z0l (h.m1 hl).2.2 (h.a5 hb).2.2 (by decide))),(h.m2.other _ _ (fun hl=>z0l (h.m2 hl).2.2 (h.a5 hb).2.2 (by decide))),(h.mb.other _ _ (fun hl=>z0l (h.mb hl).2.2 (h.a5 hb).2.2 (by decide))),(h.mr.other _ _ (fun hl=>z0l (h.mr hl).2.2 (h.a5 hb).2.2 (by decide))),(h.a4.other _ _ (fun hl=>(h.d45 hl hb))),?_,(h.a6.other _ _ (fun hl=>(Ne.symm (h.d56 hb hl)))),h.d12,h.d1r,h.d2r,h.d45,h.d46,h.d56,h.o13,(fun _=>⟨hs,hb⟩),h.o15⟩
 exact fun _=>⟨(h.a5 hb).1,(h.a5 hb).2.1,heap_setCell_same w b5 0 _ _ s17 (h.a5 hb).2.2⟩
theorem NumJ.st15 (h:NumJ B N w0 w l2 l5 l6 l9 l10 l11 l12 l13 l14 false s4 s5 s6 s14 s17 s18 s21 g1 g2 gb gr b4 b5 b6)(hs:l9=true)(hb:l12=true):NumJ B N w0 (w.setCell ⟨b6,0,none⟩ s21) l2 l5 l6 l9 l10 l11 l12 l13 l14 true s4 s5 s6 s14 s17 s18 s21 g1 g2 gb gr b4 b5 b6:=by
 refine⟨(h.bel.setCell (by exact(h.a6 hb).2.1) _),(by rw [World.size_setCell];exact h.hB),(h.m1.other _ _ (fun hl=>z0l (h.m1 hl).2.2 (h.a6 hb).2.2 (by decide))),(h.m2.other _ _ (fun hl=>z0l (h.m2 hl).2.2 (h.a6 hb).2.2 (by decide))),(h.mb.other _ _ (fun hl=>z0l (h.mb hl).2.2 (h.a6 hb).2.2 (by decide))),(h.mr.other _ _ (fun hl=>z0l (h.mr hl).2.2 (h.a6 hb).2.2 (by decide))),(h.a4.other _ _ (fun hl=>(h.d46 hl hb))),(h.a5.other _ _ (fun hl=>(h.d56 hl hb))),?_,h.d12,h.d1r,h.d2r,h.d45,h.d46,h.d56,h.o13,h.o14,(fun _=>⟨hs,hb⟩)⟩
 exact fun _=>⟨(h.a6 hb).1,(h.a6 hb).2.1,heap_setCell_same w b6 0 _ _ s21 (h.a6 hb).2.2⟩
end
theorem zg6 (v:Value)(S:List (List Nat))(w:World)(hR:RowsOf w.heap.size v S w)(hS:S.length≤1000000)(hSl:∀ a,(S.getD a []).length≤1000000)(hSk:∀ a,∀ k∈S.getD a [],k<S.length) :
  Calls prog 92 #[v] w fun e w'=>∃ gc,e=.returned (.tuple #[.slice (some ⟨gc,0,none⟩) S.length S.length,natC (tarjan S).ct])∧w.heap.size≤gc∧Ints w' gc (tarjan S).co∧Below w.heap.size w w':=by
 have hv:∃ a c,v=.slice a S.length c:=by
  rcases hR with ⟨rfl,a,c,rfl⟩ | ⟨b,off,cap,rfl,_⟩
  ·exact⟨a,c,rfl⟩
  ·exact⟨_,cap,rfl⟩
 obtain⟨va,vc,rfl⟩:=hv
 have hmk:=z78 S.length (by omega)
 have HR:=zh hR
 have HSK:=zh hSk
 have HSL:=zh hSl
 clear hR hSl hSk
 go_enter func92,ntmps92
 go_wp2_with fail
 have hb1:Boxed (w.alloc (.cells #[.slice va S.length vc] 111)) w.heap.size 111 (.slice va S.length vc):=Boxed.new _ _ _
 have hbw:Below w.heap.size w (w.alloc (.cells #[.slice va S.length vc] 111)):=z0v _ _
 have hs1:(w.alloc (.cells #[.slice va S.length vc] 111)).heap.size=w.heap.size+1:=by simp
 generalize w.alloc (.cells #[.slice va S.length vc] 111)=w1 at *
 have hc1:=hb1.cell
 refine za7 (S:=fun W=>W.cell? ⟨w.heap.size,0,none⟩=some (.slice va S.length vc)) (by kernel_rfl) ?_
 have hcS:(fun W:World=>W.cell? ⟨w.heap.size,0,none⟩=some (.slice va S.length vc)) w1.drew:=hc1
 (refine zl3 0 ?_ rfl ?_ ?_;rotate_left;(· (intro w hSw;have c0:=hSw;go_simp;try with_reducible rfl));(try simp only [zl1]))
 (refine zl3 1 ?_ rfl ?_ ?_;rotate_left;(· (intro w hSw;have c0:=hSw;go_simp;try with_reducible rfl));(try simp only [zl1]))
 (refine zl3 3 ?_ rfl ?_ ?_;rotate_left;(· (intro w hSw;have c0:=hSw;go_simp;try with_reducible rfl));(try simp only [zl1]))
 (refine zl3 4 ?_ rfl ?_ ?_;rotate_left;(· (intro w hSw;have c0:=hSw;go_simp;try with_reducible rfl));(try simp only [zl1]))
 (refine zl3 7 ?_ rfl ?_ ?_;rotate_left;(· (intro w hSw;have c0:=hSw;go_simp;try with_reducible rfl));(try simp only [zl1]))
 (refine zl3 8 ?_ rfl ?_ ?_;rotate_left;(· (intro w hSw;have c0:=hSw;go_simp;try with_reducible rfl));(try simp only [zl1]))
 refine z9b (fun listed a W=>∃ (l2 l5 l6 l9 l10 l11 l12 l13 l14 l15:Bool) (s4 s5 s6 s14 s17 s18 s21:Value) (g1 g2 gb gr b4 b5 b6:Nat),listed=#[true,true,l2,true,true,l5,l6,true,true,l9,l10,l11,l12,l13,l14,l15]∧a={ tmps:=#[.slice va S.length vc,.pointer (some ⟨w.heap.size,0,none⟩),.slice none 0 0,.int .i64 0,s4,s5,s6,undef,undef,undef,undef,undef,.slice va S.length vc,.int .i64 S.length,s14,.slice va S.length vc,.int .i64 S.length,s17,s18,.slice va S.length vc,.int .i64 S.length,s21,undef,undef,undef,undef,undef,undef,undef,undef,undef,undef,undef,undef,undef,undef,undef,undef,undef],defers:=[] }∧NumJ (w.heap.size+1) S.length w1 W l2 l5 l6 l9 l10 l11 l12 l13 l14 l15 s4 s5 s6 s14 s17 s18 s21 g1 g2 gb gr b4 b5 b6) ?step ?fin _ _ _ _ (by decide) ?start
 case start=>exact⟨_,_,_,_,_,_,_,_,_,_,_,_,_,_,_,_,_,_,_,_,_,_,_,_,rfl,rfl,NumJ.start _ _ _ _ (Below.refl _ _).drew (show w.heap.size+1≤w1.heap.size by omega)⟩
 case fin =>
  rintro listed a W ⟨l2,l5,l6,l9,l10,l11,l12,l13,l14,l15,s4,s5,s6,s14,s17,s18,s21,g1,g2,gb,gr,b4,b5,b6,rfl,rfl,hJ⟩ hr
  have q2:=z13 hr 2 (by kernel_rfl)
  obtain rfl:l2=true:=q2
  have q5:=z13 hr 5 (by kernel_rfl)
  obtain rfl:l5=true:=q5
  have q6:=z13 hr 6 (by kernel_rfl)
  obtain rfl:l6=true:=q6
  have q9:=z13 hr 9 (by kernel_rfl)
  obtain rfl:l9=true:=q9
  have q10:=z13 hr 10 (by kernel_rfl)
  obtain rfl:l10=true:=q10
  have q11:=z13 hr 11 (by kernel_rfl)
  obtain rfl:l11=true:=q11
  have q12:=z13 hr 12 (by kernel_rfl)
  obtain rfl:l12=true:=q12
  have q13:=z13 hr 13 (by kernel_rfl)
  obtain rfl:l13=true:=q13
  have q14:=z13 hr 14 (by kernel_rfl)
  obtain rfl:l14=true:=q14
  have q15:=z13 hr 15 (by kernel_rfl)
  obtain rfl:l15=true:=q15
  obtain⟨es,hg1,hc1g⟩:=hJ.m1 rfl
  subst es
  obtain⟨es,hg2,hc2g⟩:=hJ.m2 rfl
  subst es
  obtain⟨es,_,_⟩:=hJ.mb rfl
  subst es
  obtain⟨es,hgr,hcrg⟩:=hJ.mr rfl
  subst es
  obtain⟨es,hb4,hc4⟩:=hJ.a4 rfl
  subst es
  obtain⟨es,hb5,hc5⟩:=hJ.a5 rfl
  subst es
  obtain⟨es,hb6,hc6⟩:=hJ.a6 rfl
  subst es
  have hc4':Boxed W b4 109 (slOf S.length g1):=hc4
  have hc5':Boxed W b5 109 (slOf S.length g2):=hc5
  have hc6':Boxed W b6 109 (slOf S.length gr):=hc6
  have d1:=hJ.d12 rfl rfl
  have d2:=hJ.d1r rfl rfl
  have d3:=hJ.d2r rfl rfl
  have d4:=hJ.d45 rfl rfl
  have d5:=hJ.d46 rfl rfl
  have d6:=hJ.d56 rfl rfl
  have hbel:=hJ.bel
  have hsW:=hbel.size
  have hboxg:Boxed W w.heap.size 111 (.slice va S.length vc):=(hbel.block _ (by omega)).trans hb1
  have HJ:=zh hJ
  clear hJ hc4 hc5 hc6 hr
  have hcg:=hboxg.cell
  have hcg4:((((W.alloc (.cells #[.slice none 0 0] 109)).alloc (.cells #[.int .i64 1] 3)).alloc (.cells #[.int .i64 0] 3)).alloc (.cells #[.func (.func 124) #[] #[.pointer (some ⟨W.heap.size+1,0,none⟩),ptrOf b4,ptrOf b5,.pointer (some ⟨W.heap.size,0,none⟩),.pointer (some ⟨w.heap.size,0,none⟩),.pointer (some ⟨W.heap.size+1+1+1,0,none⟩),ptrOf b6,.pointer (some ⟨W.heap.size+1+1,0,none⟩)]] 173)).cell? ⟨w.heap.size,0,none⟩=some (.slice va S.length vc):=cellA _ (cellA _ (cellA _ (cellA _ hcg)))
  refine NoPanic.normal ?_
  go_wp2_with fail
  clear hcg4 hcg
  have z1:(W.alloc (.cells #[.slice none 0 0] 109)).heap.size=W.heap.size+1:=by simp
  have z2:((W.alloc (.cells #[.slice none 0 0] 109)).alloc (.cells #[.int .i64 1] 3)).heap.size=W.heap.size+1+1:=by simp
  have z3:(((W.alloc (.cells #[.slice none 0 0] 109)).alloc (.cells #[.int .i64 1] 3)).alloc (.cells #[.int .i64 0] 3)).heap.size=W.heap.size+1+1+1:=by simp
  obtain⟨W3,hW3⟩:∃ W3,W3=((((W.alloc (.cells #[.slice none 0 0] 109)).alloc (.cells #[.int .i64 1] 3)).alloc (.cells #[.int .i64 0] 3)).alloc (.cells #[.func (.func 124) #[] #[.pointer (some ⟨W.heap.size+1,0,none⟩),ptrOf b4,ptrOf b5,.pointer (some ⟨W.heap.size,0,none⟩),.pointer (some ⟨w.heap.size,0,none⟩),.pointer (some ⟨W.heap.size+1+1+1,0,none⟩),ptrOf b6,.pointer (some ⟨W.heap.size+1+1,0,none⟩)]] 173)):=⟨_,rfl⟩
  have hs3:W3.heap.size=W.heap.size+4:=by rw [hW3];simp
  have hbl3:Below W.heap.size W W3:=by rw [hW3];exact((((Below.refl _ _).alloc (zq _) _).alloc (by simp) _).alloc (by simp;omega) _).alloc (by simp;omega) _
  have k3:∀ k,k<W.heap.size→W3.heap[k]? = W.heap[k]?:=hbl3.block
  have p0:Boxed W3 W.heap.size 109 (.slice none 0 0):=by rw [hW3];exact(((Boxed.new W _ _).alloc _).alloc _).alloc _
  have p1:Boxed W3 (W.heap.size+1) 3 (.int .i64 1):=by
   have:=((Boxed.new (W.alloc (.cells #[.slice none 0 0] 109)) 3 (.int .i64 1)).alloc (.cells #[.int .i64 0] 3)).alloc (.cells #[.func (.func 124) #[] #[.pointer (some ⟨W.heap.size+1,0,none⟩),ptrOf b4,ptrOf b5,.pointer (some ⟨W.heap.size,0,none⟩),.pointer (some ⟨w.heap.size,0,none⟩),.pointer (some ⟨W.heap.size+1+1+1,0,none⟩),ptrOf b6,.pointer (some ⟨W.heap.size+1+1,0,none⟩)]] 173)
   rw [z1,← hW3]at this
   exact this
  have p2:Boxed W3 (W.heap.size+1+1) 3 (.int .i64 0):=by
   have:=(Boxed.new ((W.alloc (.cells #[.slice none 0 0] 109)).alloc (.cells #[.int .i64 1] 3)) 3 (.int .i64 0)).alloc (.cells #[.func (.func 124) #[] #[.pointer (some ⟨W.heap.size+1,0,none⟩),ptrOf b4,ptrOf b5,.pointer (some ⟨W.heap.size,0,none⟩),.pointer (some ⟨w.heap.size,0,none⟩),.pointer (some ⟨W.heap.size+1+1+1,0,none⟩),ptrOf b6,.pointer (some ⟨W.heap.size+1+1,0,none⟩)]] 173)
   rw [z2,← hW3]at this
   exact this
  have p3:Boxed W3 (W.heap.size+1+1+1) 173 (.func (.func 124) #[] #[.pointer (some ⟨W.heap.size+1,0,none⟩),ptrOf b4,ptrOf b5,.pointer (some ⟨W.heap.size,0,none⟩),.pointer (some ⟨w.heap.size,0,none⟩),.pointer (some ⟨W.heap.size+1+1+1,0,none⟩),ptrOf b6,.pointer (some ⟨W.heap.size+1+1,0,none⟩)]):=by
   have:=Boxed.new (((W.alloc (.cells #[.slice none 0 0] 109)).alloc (.cells #[.int .i64 1] 3)).alloc (.cells #[.int .i64 0] 3)) 173 (.func (.func 124) #[] #[.pointer (some ⟨W.heap.size+1,0,none⟩),ptrOf b4,ptrOf b5,.pointer (some ⟨W.heap.size,0,none⟩),.pointer (some ⟨w.heap.size,0,none⟩),.pointer (some ⟨W.heap.size+1+1+1,0,none⟩),ptrOf b6,.pointer (some ⟨W.heap.size+1+1,0,none⟩)])
   rw [z3,← hW3]at this
   exact this
  rw [← hW3]
  clear hW3 z1 z2 z3
  obtain⟨p,hp⟩:∃ p:TP,p=⟨W.heap.size+1,b4,b5,W.heap.size,w.heap.size,W.heap.size+1+1+1,b6,W.heap.size+1+1,g1,g2,gr⟩:=⟨_,rfl⟩
  have l4:=hc4'.lt
  have l5:=hc5'.lt
  have l6:=hc6'.lt
  have lg1:=(zb hc1g)
  have lg2:=(zb hc2g)
  have lgr:=(zb hcrg)
  have hok:TOk w.heap.size p:=by
   have e1:g1≠b4:=z0l hc1g hc4' (by decide)
   have e2:g1≠b5:=z0l hc1g hc5' (by decide)
   have e3:g1≠b6:=z0l hc1g hc6' (by decide)
   have e4:g2≠b4:=z0l hc2g hc4' (by decide)
   have e5:g2≠b5:=z0l hc2g hc5' (by decide)
   have e6:g2≠b6:=z0l hc2g hc6' (by decide)
   have e7:gr≠b4:=z0l hcrg hc4' (by decide)
   have e8:gr≠b5:=z0l hcrg hc5' (by decide)
   have e9:gr≠b6:=z0l hcrg hc6' (by decide)
   subst hp
   refine⟨?_,?_⟩
   ·simp only [TP.blocks,List.nodup_cons,List.mem_cons,List.not_mem_nil,or_false,not_or,not_false_eq_true,List.nodup_nil,and_true]
    refine⟨⟨?_,?_,?_,?_,?_,?_,?_,?_,?_,?_⟩,⟨?_,?_,?_,?_,?_,?_,?_,?_,?_⟩,⟨?_,?_,?_,?_,?_,?_,?_,?_⟩,⟨?_,?_,?_,?_,?_,?_,?_⟩,⟨?_,?_,?_,?_,?_,?_⟩,⟨?_,?_,?_,?_,?_⟩,⟨?_,?_,?_,?_⟩,⟨?_,?_,?_⟩,⟨?_,?_⟩,?_⟩<;>first | assumption | (apply Ne.symm;assumption) | omega
   ·intro b hb
    simp only [TP.blocks,List.mem_cons,List.not_mem_nil,or_false]at hb
    rcases hb with rfl | rfl | rfl | rfl | rfl | rfl | rfl | rfl | rfl | rfl | rfl<;>omega
  have hB3:Below w.heap.size w W3:=(hbw.trans (hbel.mono (by omega))).trans (hbl3.mono (by omega))
  have htw:TarW W3 w.heap.size p (.slice va S.length vc) S (tinit S.length) (.slice none 0 0):=by
   subst hp
   refine⟨?_,World.ownsRow_nil _ _ _ _,fun j hj=>by simp [Value.ownBlock]at hj,HR.out.below hB3 (zq _)⟩
   intro q hq
   simp only [tlay,List.mem_cons,List.not_mem_nil,or_false]at hq
   rcases hq with rfl | rfl | rfl | rfl | rfl | rfl | rfl | rfl | rfl | rfl | rfl
   ·exact p1
   ·exact(k3 _ l4).trans hc4'
   ·exact(k3 _ l5).trans hc5'
   ·exact p0
   ·exact(k3 _ (by omega)).trans hboxg
   ·exact p3
   ·exact(k3 _ l6).trans hc6'
   ·exact p2
   ·refine(k3 _ lg1).trans (hc1g.trans ?_)
    simp [tinit]
   ·refine(k3 _ lg2).trans (hc2g.trans ?_)
    simp [tinit]
   ·refine(k3 _ lgr).trans (hcrg.trans ?_)
    simp [tinit]
  have HTW:=zh htw
  have HOK:=zh hok
  have HB3:=zh hB3
  have HGR:Hid (p.gc=gr∧w.heap.size≤gr):=zh ⟨by rw [hp],by omega⟩
  have HPE:=zh hp
  clear htw hok hB3 hp hbl3 k3 p0 p1 p2 p3 hc4' hc5' hc6' hc1g hc2g hcrg hboxg hmk
  go_loopw [25] (fun q wr=>∃ (k:Nat) (sv:Value),k≤S.length∧q=.int .i64 k∧Hid (TarW wr w.heap.size p (.slice va S.length vc) S (trun S k) sv)∧Hid (TFr p W3 wr (.slice none 0 0) sv)) (fun q _=>S.length - (intOf q).toNat)
  case atStart=>exact⟨0,.slice none 0 0,by omega,rfl,HTW,zh (TFr.refl _ _ _)⟩
  case round =>
   obtain⟨HTW0⟩:Nonempty (Hid (TarW W3 w.heap.size p (.slice va S.length vc) S (tinit S.length) (.slice none 0 0))):=⟨HTW⟩
   clear HTW
   obtain⟨k,sv,hk,rfl,HT,HF⟩:=hrel
   have hszr:=HF.out.size
   have hti:=z6d HSK.out k hk
   have hcb6:wr.cell? ⟨b6,0,none⟩=some (.slice (some ⟨gr,0,none⟩) S.length S.length):=by
    have:=Boxed.cell (HT.out.L.get 6 rfl)
    rw [HPE.out]at this
    exact this
   have hcbk:wr.cell? ⟨W.heap.size+1+1,0,none⟩=some (natC (trun S k).ct):=by
    have:=Boxed.cell (HT.out.L.get 7 rfl)
    rw [HPE.out]at this
    exact this
   by_cases hlt:k<S.length
   ·have hk0:(0:Int)≤(k:Int):=by omega
    have hk1:(k:Int)<(S.length:Int):=by omega
    have hcb4:wr.cell? ⟨b4,0,none⟩=some (.slice (some ⟨g1,0,none⟩) S.length S.length):=by
     have:=Boxed.cell (HT.out.L.get 1 rfl)
     rw [HPE.out]at this
     exact this
    have hcik:wr.cell? ⟨g1,k,none⟩=some (intC (gD (trun S k).ix k)):=by
     have:=Ints.cell (HT.out.L.get 8 rfl) k _ (z0z (by rw [hti.li];exact hlt))
     rw [HPE.out]at this
     exact this
    have HTI:=zh hti
    clear hti
    by_cases hz:gD (trun S k).ix k=0
    ·have hcall:Calls prog 124 #[natC k,.pointer (some ⟨W.heap.size+1,0,none⟩),ptrOf b4,ptrOf b5,.pointer (some ⟨W.heap.size,0,none⟩),.pointer (some ⟨w.heap.size,0,none⟩),.pointer (some ⟨W.heap.size+1+1+1,0,none⟩),ptrOf b6,.pointer (some ⟨W.heap.size+1+1,0,none⟩)] wr fun e W' =>
       e=.returned (.tuple #[])∧∃ sv',TarW W' w.heap.size p (.slice va S.length vc) S (visitT S S.length (trun S k) k) sv'∧TFr p wr W' sv sv':=by
      have:=zgs w.heap.size p (.slice va S.length vc) S HOK.out hS HSL.out HSK.out S.length (trun S k) sv k wr (by have:=zah (trun S k).ix;rw [HTI.out.li]at this;exact this) HTI.out hlt hz (by omega) HT.out
      rw [HPE.out]at this ⊢
      exact this
     have hcv:wr.cell? ⟨W.heap.size+1+1+1,0,none⟩=some (.func (.func 124) #[] #[.pointer (some ⟨W.heap.size+1,0,none⟩),ptrOf b4,ptrOf b5,.pointer (some ⟨W.heap.size,0,none⟩),.pointer (some ⟨w.heap.size,0,none⟩),.pointer (some ⟨W.heap.size+1+1+1,0,none⟩),ptrOf b6,.pointer (some ⟨W.heap.size+1+1,0,none⟩)]):=by
      have:=Boxed.cell (HT.out.L.get 5 rfl)
      rw [HPE.out]at this
      exact this
     have HTS:Hid (trun S (k+1)=visitT S S.length (trun S k) k):=zh (by rw [z51];unfold tround;rw [if_pos hz])
     rw [hz]at hcik
     have HCALL:=zh hcall
     clear hcall
     go_wp2_with fail
     refine HCALL.out.mono ?_
     rintro e w4 ⟨rfl,sv4,hT4,hF4⟩
     go_wp2_with fail
     go_roundw
     case rel=>exact⟨k+1,sv4,by omega,by go_num,zh (by rw [HTS.out];exact hT4),zh (HF.out.trans hF4)⟩
     case measure=>simp [intOf];omega
    ·have HTS:Hid (trun S (k+1)=trun S k):=zh (by rw [z51];unfold tround;rw [if_neg hz])
     obtain⟨xi,hxi⟩:∃ xi,xi=gD (trun S k).ix k:=⟨_,rfl⟩
     rw [← hxi]at hcik hz
     clear hxi
     have hzd:decide (xi=0)=false:=decide_eq_false hz
     go_wp2_with fail
     go_roundw
     case rel=>exact⟨k+1,sv,by omega,by go_num,zh (by rw [HTS.out];exact HT.out),HF⟩
     case measure=>simp [intOf];omega
   ·have hkk:k=S.length:=by omega
    subst hkk
    go_wp2_with fail
    go_quiet (fail)
    go_wp2_with fail
    refine bodyPost_ret (v:=.tuple #[.slice (some ⟨gr,0,none⟩) S.length S.length,natC (trun S S.length).ct]) (by simp [results,Tryz.results92,go_sem]) rfl ?_
    have hfin:=HF.out.below HOK.out (by omega) HTW0.out
    refine⟨gr,rfl,HGR.out.2,?_,HB3.out.trans ⟨hfin.os,hfin.tape,hfin.output,hfin.size,hfin.block⟩⟩
    have:=HT.out.L.get 10 rfl
    rw [HPE.out]at this
    exact this
 case step =>
  rintro listed a W i ⟨l2,l5,l6,l9,l10,l11,l12,l13,l14,l15,s4,s5,s6,s14,s17,s18,s21,g1,g2,gb,gr,b4,b5,b6,rfl,rfl,hJ⟩ hi
  obtain⟨h1,h2,h3⟩:=z5i hi
  have hi16:i<16:=h1
  have hSW:W.cell? ⟨w.heap.size,0,none⟩=some (.slice va S.length vc):=(World.cell?_of_block (hJ.bel.block w.heap.size (by omega))).trans hc1
  have hi:i=0∨i=1∨i=2∨i=3∨i=4∨i=5∨i=6∨i=7∨i=8∨i=9∨i=10∨i=11∨i=12∨i=13∨i=14∨i=15:=by omega
  have HSW:Hid (∀ W':World,Below (w.heap.size+1) w1 W'→W'.cell? ⟨w.heap.size,0,none⟩=some (.slice va S.length vc)):=zh fun W' h=>(World.cell?_of_block (h.block w.heap.size (by omega))).trans hc1
  clear h1
  rcases hi with rfl | rfl | rfl | rfl | rfl | rfl | rfl | rfl | rfl | rfl | rfl | rfl | rfl | rfl | rfl | rfl
  ·cases h2
  ·cases h2
  ·obtain rfl:l2=false:=h2
   refine z1k rfl (fun K hK=>?_)
   have HJ:=zh hJ
   clear h3 hJ
   go_simp
   have h:=HJ.out.mk1 (zq _) (z0v W (.cells (Array.replicate S.length (.int .i64 0)) 3)) (zn W _)
   exact hK.out _ _ ⟨HSW.out _ h.bel,true,l5,l6,l9,l10,l11,l12,l13,l14,l15,_,_,_,_,_,_,_,_,_,_,_,_,_,_,rfl,rfl,h⟩
  ·cases h2
  ·cases h2
  ·obtain rfl:l5=false:=h2
   refine z1k rfl (fun K hK=>?_)
   have HJ:=zh hJ
   clear h3 hJ
   go_simp
   have h:=HJ.out.mk2 (zq _) (z0v W (.cells (Array.replicate S.length (.int .i64 0)) 3)) (zn W _)
   exact hK.out _ _ ⟨HSW.out _ h.bel,l2,true,l6,l9,l10,l11,l12,l13,l14,l15,_,_,_,_,_,_,_,_,_,_,_,_,_,_,rfl,rfl,h⟩
  ·obtain rfl:l6=false:=h2
   refine z1k rfl (fun K hK=>?_)
   have HJ:=zh hJ
   clear h3 hJ
   go_simp
   have h:=HJ.out.mkb (zq _) (z0v W (.cells #[.int .i64 (-1)] 3)) (zn W _)
   exact hK.out _ _ ⟨HSW.out _ h.bel,l2,l5,true,l9,l10,l11,l12,l13,l14,l15,_,_,_,_,_,_,_,_,_,_,_,_,_,_,rfl,rfl,h⟩
  ·cases h2
  ·cases h2
  ·obtain rfl:l9=false:=h2
   obtain rfl:l6=true:=by
    cases l6 with
    | true=>rfl
    | false=>exact Bool.noConfusion (h3.symm.trans (by kernel_rfl:_=false))
   obtain⟨e6,hb6,hc6⟩:=hJ.mb rfl
   have hrp:=z84 gb 1 S.length (-1) W hS (zw _ _ 0 _ _ _ hc6) (zb hc6)
   subst e6
   refine z1k rfl (fun K hK=>?_)
   have HJ:=zh hJ
   have HRP:=zh hrp
   clear h3 hJ hrp
   go_simp
   refine HRP.out.mono ?_
   rintro e W' ⟨g,rfl,hg,hcg,hbg⟩
   have h:=HJ.out.mkr hg hbg hcg
   exact hK.out _ _ ⟨HSW.out _ h.bel,l2,l5,true,true,l10,l11,l12,l13,l14,l15,_,_,_,_,_,_,_,_,_,_,_,_,_,_,rfl,rfl,h⟩
  ·obtain rfl:l10=false:=h2
   refine z1k rfl (fun K hK=>?_)
   have HJ:=zh hJ
   clear h3 hJ
   go_simp
   have h:=HJ.out.al4 (zq _) (z0v W (.cells #[.slice none 0 0] 109)) (zn W _)
   exact hK.out _ _ ⟨HSW.out _ h.bel,l2,l5,l6,l9,true,l11,l12,l13,l14,l15,_,_,_,_,_,_,_,_,_,_,_,_,_,_,rfl,rfl,h⟩
  ·obtain rfl:l11=false:=h2
   refine z1k rfl (fun K hK=>?_)
   have HJ:=zh hJ
   clear h3 hJ
   go_simp
   have h:=HJ.out.al5 (zq _) (z0v W (.cells #[.slice none 0 0] 109)) (zn W _)
   exact hK.out _ _ ⟨HSW.out _ h.bel,l2,l5,l6,l9,l10,true,l12,l13,l14,l15,_,_,_,_,_,_,_,_,_,_,_,_,_,_,rfl,rfl,h⟩
  ·obtain rfl:l12=false:=h2
   refine z1k rfl (fun K hK=>?_)
   have HJ:=zh hJ
   clear h3 hJ
   go_simp
   have h:=HJ.out.al6 (zq _) (z0v W (.cells #[.slice none 0 0] 109)) (zn W _)
   exact hK.out _ _ ⟨HSW.out _ h.bel,l2,l5,l6,l9,l10,l11,true,l13,l14,l15,_,_,_,_,_,_,_,_,_,_,_,_,_,_,rfl,rfl,h⟩
  ·obtain rfl:l13=false:=h2
   obtain rfl:l10=true:=by
    cases l10 with
    | true=>rfl
    | false=>exact Bool.noConfusion (h3.symm.trans (by kernel_rfl:_=false))
   obtain rfl:l2=true:=by
    cases l2 with
    | true=>rfl
    | false=>exact Bool.noConfusion (h3.symm.trans (by kernel_rfl:_=false))
   obtain⟨ea,hba,hca⟩:=hJ.a4 rfl
   obtain⟨es,hbs,hcs⟩:=hJ.m1 rfl
   have hcell:=Boxed.cell hca
   have hfroz:=Boxed.frozen hca
   have HJ:=zh hJ
   subst ea
   subst es
   refine z1k rfl (fun K hK=>?_)
   clear h3 hJ hca hcs
   go_simp
   have h:=HJ.out.st13 rfl rfl
   exact hK.out _ _ ⟨HSW.out _ h.bel,true,l5,l6,l9,true,l11,l12,true,l14,l15,_,_,_,_,_,_,_,_,_,_,_,_,_,_,rfl,rfl,h⟩
  ·obtain rfl:l14=false:=h2
   obtain rfl:l11=true:=by
    cases l11 with
    | true=>rfl
    | false=>exact Bool.noConfusion (h3.symm.trans (by kernel_rfl:_=false))
   obtain rfl:l5=true:=by
    cases l5 with
    | true=>rfl
    | false=>exact Bool.noConfusion (h3.symm.trans (by kernel_rfl:_=false))
   obtain⟨ea,hba,hca⟩:=hJ.a5 rfl
   obtain⟨es,hbs,hcs⟩:=hJ.m2 rfl
   have hcell:=Boxed.cell hca
   have hfroz:=Boxed.frozen hca
   have HJ:=zh hJ
   subst ea
   subst es
   refine z1k rfl (fun K hK=>?_)
   clear h3 hJ hca hcs
   go_simp
   have h:=HJ.out.st14 rfl rfl
   exact hK.out _ _ ⟨HSW.out _ h.bel,l2,true,l6,l9,l10,true,l12,l13,true,l15,_,_,_,_,_,_,_,_,_,_,_,_,_,_,rfl,rfl,h⟩
  ·obtain rfl:l15=false:=h2
   obtain rfl:l12=true:=by
    cases l12 with
    | true=>rfl
    | false=>exact Bool.noConfusion (h3.symm.trans (by kernel_rfl:_=false))
   obtain rfl:l9=true:=by
    cases l9 with
    | true=>rfl
    | false=>exact Bool.noConfusion (h3.symm.trans (by kernel_rfl:_=false))
   obtain⟨ea,hba,hca⟩:=hJ.a6 rfl
   obtain⟨es,hbs,hcs⟩:=hJ.mr rfl
   have hcell:=Boxed.cell hca
   have hfroz:=Boxed.frozen hca
   have HJ:=zh hJ
   subst ea
   subst es
   refine z1k rfl (fun K hK=>?_)
   clear h3 hJ hca hcs
   go_simp
   have h:=HJ.out.st15 rfl rfl
   exact hK.out _ _ ⟨HSW.out _ h.bel,l2,l5,l6,true,l10,l11,true,l13,l14,true,_,_,_,_,_,_,_,_,_,_,_,_,_,_,rfl,rfl,h⟩
section
open Go.Proofs.Tryz
def cput (st:List Int×List (List Nat))(c:Nat):List Int×List (List Nat):=if gD st.1 c<0 then(st.1.set c (st.2.length:Int),st.2++[[]]) else st
def crow (st:List Int×List (List Nat))(c n:Nat):List Int×List (List Nat):=(st.1,st.2.set (gD st.1 c).toNat (st.2.getD (gD st.1 c).toNat []++[n]))
def cstepN (co:List Int)(st:List Int×List (List Nat))(n:Nat):List Int×List (List Nat):=crow (cput st (gD co n).toNat) (gD co n).toNat n
def crun (co:List Int)(ct k:Nat):List Int×List (List Nat):=(List.range k).foldl (cstepN co) (List.replicate ct (-1),[])
theorem z4h (co:List Int)(ct k:Nat):crun co ct (k+1)=cstepN co (crun co ct k) k:=by
 unfold crun
 rw [List.range_succ,List.foldl_append]
 rfl
structure CInv (co:List Int)(ct k:Nat)(st:List Int×List (List Nat)):Prop where
 len:st.1.length=ct
 lo:∀ c,-1≤gD st.1 c
 hi:∀ c,gD st.1 c<(st.2.length:Int)
 few:st.2.length≤k
 row:∀ i,(st.2.getD i []).length≤k
 old:∀ n,n<k→0≤gD st.1 (gD co n).toNat
theorem z3h (d:List Int)(k:Nat)(x:Int)(a:Nat):gD (d.set k x) a=if a=k∧k<d.length then x else gD d a:=by
 by_cases hk:k<d.length
 ·rw [zeh d k x a hk]
  by_cases e:a=k
  ·rw [if_pos e,if_pos ⟨e,hk⟩]
  ·rw [if_neg e,if_neg (fun h=>e h.1)]
 ·rw [if_neg (fun h=>hk h.2),List.set_eq_of_length_le (by omega)]
theorem z0m (L:List (List Nat))(i j:Nat)(r:List Nat):(L.set i r).getD j []=if j=i∧i<L.length then r else L.getD j []:=by
 rw [zg,zg,List.getElem?_set]
 by_cases e:i=j
 ·subst e
  by_cases h:i<L.length
  ·simp [h]
  ·simp [h]
 ·rw [if_neg e,if_neg (fun h=>e h.1.symm)]
theorem CInv.put {co:List Int}{ct k:Nat}{st:List Int×List (List Nat)}(h:CInv co ct k st)(c:Nat)(hc:c<ct):(cput st c).1.length=ct∧(∀ a,-1≤gD (cput st c).1 a)∧(∀ a,gD (cput st c).1 a<((cput st c).2.length:Int))∧(cput st c).2.length≤k+1∧(∀ i,((cput st c).2.getD i []).length≤k)∧0≤gD (cput st c).1 c∧∀ n,n<k→0≤gD (cput st c).1 (gD co n).toNat:=by
 unfold cput
 by_cases hlt:gD st.1 c<0
 ·rw [if_pos hlt]
  refine⟨by simp [h.len],fun a=>?_,fun a=>?_,by simp;exact h.few,fun i=>?_,?_,fun n hn=>?_⟩
  ·show -1≤gD (st.1.set c _) a
   rw [z3h];split
   ·omega
   ·exact h.lo a
  ·show gD (st.1.set c _) a<((st.2++[[]]).length:Int)
   have:=h.hi a
   rw [z3h,List.length_append,List.length_singleton];split<;>omega
  ·show((st.2++[[]]).getD i []).length≤k
   rw [zg,List.getElem?_append]
   split
   ·have:=h.row i
    rwa [zg]at this
   ·cases e:[([]:List Nat)][i - st.2.length]? with
    | none=>simp
    | some r=>have:=List.mem_of_getElem? e;simp at this;simp [this]
  ·show 0≤gD (st.1.set c _) c
   rw [z3h,if_pos ⟨rfl,by rw [h.len];exact hc⟩];omega
  ·show 0≤gD (st.1.set c _) _
   have:=h.old n hn
   rw [z3h];split<;>omega
 ·rw [if_neg hlt]
  exact⟨h.len,h.lo,h.hi,by have:=h.few;omega,h.row,by omega,h.old⟩
theorem CInv.step {co:List Int}{ct k:Nat}{st:List Int×List (List Nat)}(h:CInv co ct k st)(hc0:0≤gD co k)(hc:gD co k<(ct:Int)):CInv co ct (k+1) (cstepN co st k):=by
 obtain⟨h1,h2,h3,h4,h5,h6,h7⟩:=h.put (gD co k).toNat (by omega)
 unfold cstepN
 generalize cput st (gD co k).toNat=s1 at *
 refine⟨h1,h2,fun a=>?_,by show(List.set _ _ _).length≤k+1;rw [List.length_set];exact h4,fun i=>?_,fun n hn=>?_⟩
 ·show gD s1.1 a<((List.set s1.2 _ _).length:Int)
  rw [List.length_set];exact h3 a
 ·show((List.set s1.2 _ _).getD i []).length≤k+1
  rw [z0m]
  split
  ·rw [List.length_append,List.length_singleton]
   have:=h5 (gD s1.1 (gD co k).toNat).toNat
   omega
  ·have:=h5 i;omega
 ·show 0≤gD s1.1 _
  by_cases e:n=k
  ·subst e;exact h6
  ·exact h7 n (by omega)
theorem z2e {co:List Int}{ct N:Nat}(hco:∀ n,n<N→0≤gD co n∧gD co n<(ct:Int)):∀ k,k≤N→CInv co ct k (crun co ct k)
 | 0,_=>by
  have hg:∀ c,gD (List.replicate ct (-1:Int)) c=-1:=fun c=>by
   unfold gD
   rw [zg,List.getElem?_replicate]
   split<;>rfl
  refine⟨by simp [crun],fun c=>by show -1≤gD (List.replicate ct (-1)) c;rw [hg];omega,fun c=>by show gD (List.replicate ct (-1)) c<_;rw [hg];simp [crun],by simp [crun],fun i=>by simp [crun],fun n hn=>by omega⟩
 | k+1,h=>by
  rw [z4h]
  exact(z2e hco k (by omega)).step (hco k (by omega)).1 (hco k (by omega)).2
def cedge (co pl:List Int)(n:Nat)(out:List (List Nat))(k:Nat):List (List Nat) :=
 if gD co k=gD co n then out else out.set (gD pl (gD co n).toNat).toNat (out.getD (gD pl (gD co n).toNat).toNat []++[(gD pl (gD co k).toNat).toNat])
def couts (co pl:List Int)(S:List (List Nat))(M k:Nat):List (List Nat):=(List.range k).foldl (fun out n=>(S.getD n []).foldl (cedge co pl n) out) (List.replicate M [])
theorem z3u (co pl:List Int)(S:List (List Nat))(M k:Nat):couts co pl S M (k+1)=(S.getD k []).foldl (cedge co pl k) (couts co pl S M k):=by
 unfold couts
 rw [List.range_succ,List.foldl_append]
 rfl
theorem zh8 {co pl:List Int}{n:Nat}{m:Nat}{out:List (List Nat)}(h:∀ i,(out.getD i []).length≤m)(k:Nat):(cedge co pl n out k).length=out.length∧∀ i,((cedge co pl n out k).getD i []).length≤m+1:=by
 unfold cedge
 split
 ·exact⟨rfl,fun i=>by have:=h i;omega⟩
 ·refine⟨by simp,fun i=>?_⟩
  rw [z0m]
  split
  ·rw [List.length_append,List.length_singleton];have:=h (gD pl (gD co n).toNat).toNat;omega
  ·have:=h i;omega
theorem z57 {co pl:List Int}{n:Nat}:∀ (l:List Nat){m:Nat}{out:List (List Nat)},(∀ i,(out.getD i []).length≤m)→(l.foldl (cedge co pl n) out).length=out.length∧∀ i,((l.foldl (cedge co pl n) out).getD i []).length≤m+l.length
 | [],m,out,h=>⟨rfl,h⟩
 | k::l,m,out,h=>by
  obtain⟨h1,h2⟩:=zh8 (co:=co) (pl:=pl) (n:=n) h k
  obtain⟨h3,h4⟩:=z57 (co:=co) (pl:=pl) (n:=n) l h2
  exact⟨h3.trans h1,fun i=>by have:=h4 i;simp only [List.length_cons,List.foldl_cons]at *;omega⟩
theorem z4g {co pl:List Int}{S:List (List Nat)}{M R:Nat}(hS:∀ a,(S.getD a []).length≤R):∀ k,(couts co pl S M k).length=M∧∀ i,((couts co pl S M k).getD i []).length≤k*R
 | 0=>by
  refine⟨by simp [couts],fun i=>?_⟩
  show((List.replicate M []).getD i []).length≤_
  rw [zg,List.getElem?_replicate]
  split<;>simp
 | k+1=>by
  obtain⟨h1,h2⟩:=z4g (co:=co) (pl:=pl) (M:=M) hS k
  obtain⟨h3,h4⟩:=z57 (co:=co) (pl:=pl) (n:=k) (S.getD k []) h2
  rw [z3u]
  refine⟨h3.trans h1,fun i=>?_⟩
  have:=h4 i
  have:=hS k
  rw [Nat.add_mul]
  omega
end
end Go.Proofs.YtapbhoodgnmnkaaGreatDoor
