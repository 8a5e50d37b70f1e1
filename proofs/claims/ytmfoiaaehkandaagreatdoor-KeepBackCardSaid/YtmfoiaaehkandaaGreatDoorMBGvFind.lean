/-
  Texts of this claim.
-/
import Derived.Test.YtmfoiaaehkandaaGreatDoorMBGvNum
import Derived.Test.YtmfoiaaehkandaaGreatDoorMBGvOrd
set_option linter.unusedVariables false
set_option linter.unusedSimpArgs false
namespace Go.Ev
open Go.Lib
structure Item where
 key:Bytes
 val:Bytes
 over:Int
 size:Int
deriving DecidableEq,Inhabited
structure Child where
 key:Bytes
 page:Int
deriving DecidableEq,Inhabited
def inB (n least most:Int):Bool:=decide (least<=n) && decide (n<=most)
def Item.right (x:Item):Bool:=
 inB x.key.length 1 40 &&
 if x.over=0 then decide (x.size=0) && decide (x.val.length<=60)
 else inB x.over 1 4294967295 && inB x.size 61 2000 && x.val.isEmpty
def Item.lay (x:Item):Bytes:=textB x.key++boolB (x.over != 0)++if x.over≠0 then varB x.over++varB x.size else textB x.val
def layI:List Item->Bytes
 | []=>[]
 | x :: l=>x.lay++layI l
def riseI:List Item->Bool
 | []=>true
 | [x]=>x.right
 | x :: y :: l=>x.right && lessB x.key y.key && riseI (y :: l)
def putI (l:List Item):Bytes × Int:=
 if riseI l=false then ([],1) else if 240<(layI l).length then ([],2) else (layI l,0)
def Rd.item (r:Rd):Item × Rd:=
 let k:=r.text 40
 let o:=k.2.bool
 if o.1 then ({ key:=k.1,val:=[],over:=o.2.var.1,size:=o.2.var.2.var.1 },o.2.var.2.var.2)
 else ({ key:=k.1,val:=(o.2.text 60).1,over:=0,size:=0 },(o.2.text 60).2)
theorem Rd.item_le (r:Rd):r.item.2.b.length<=r.b.length:=by
 unfold Rd.item
 have h1:=r.text_le 40
 have h2:=(r.text 40).2.bool_le
 dsimp only
 split
 ·have h3:=(r.text 40).2.bool.2.var_le
  have h4:=(r.text 40).2.bool.2.var.2.var_le
  dsimp only
  omega
 ·have h3:=(r.text 40).2.bool.2.text_le 60
  dsimp only
  omega
theorem Rd.item_short {r:Rd} (h:r.item.2.e=0):r.item.2.b.length<r.b.length:=by
 have hk:(r.text 40).2.e=0:=by
  by_cases h0:(r.text 40).2.e=0
  ·exact h0
  ·exfalso
   unfold Rd.item at h
   dsimp only at h
   rw [Rd.bool_off h0] at h
   simp only [Bool.false_eq_true,if_false] at h
   rw [Rd.text_off h0] at h
   exact h0 h
 have h1:=Rd.text_short hk
 have h2:=(r.text 40).2.bool_le
 unfold Rd.item
 dsimp only
 split
 ·have h3:=(r.text 40).2.bool.2.var_le
  have h4:=(r.text 40).2.bool.2.var.2.var_le
  dsimp only
  omega
 ·have h3:=(r.text 40).2.bool.2.text_le 60
  dsimp only
  omega
def Rd.items (r:Rd):List Item × Rd:=
 if h:r.e=0/\r.b≠[] then
  if h2:r.item.2.e=0 then
   (r.item.1 :: (Rd.items r.item.2).1,(Rd.items r.item.2).2)
  else ([r.item.1],r.item.2)
 else ([],r)
termination_by r.b.length
decreasing_by all_goals exact Rd.item_short h2
def getI (b:Bytes):List Item × Int:=
 let p:=Rd.items ⟨b,0⟩
 let q:=putI p.1
 if p.2.e≠0\/q.2≠0\/q.1≠b then ([],4) else (p.1,0)
theorem Item.right_key {x:Item} (h:x.right=true):1<=x.key.length/\x.key.length<=40:=by
 unfold Item.right inB at h
 simp at h
 omega
theorem Rd.item_lay (x:Item) (h:x.right=true) (t:Bytes):Rd.item ⟨x.lay++t,0⟩=(x,⟨t,0⟩):=by
 have hk:=Item.right_key h
 unfold Rd.item Item.lay
 rw [List.append_assoc,List.append_assoc,Rd.text_text _ _ (by omega) (by omega)]
 dsimp only
 rw [Rd.bool_bool]
 dsimp only
 unfold Item.right inB at h
 by_cases ho:x.over=0
 ·rw [if_pos ho] at h
  simp only [Bool.and_eq_true,decide_eq_true_eq] at h
  obtain ⟨_,h1,h2⟩:=h
  simp only [ho,bne_self_eq_false,Bool.false_eq_true,if_false,ne_eq,not_true_eq_false]
  rw [Rd.text_text _ _ (by omega) (by omega)]
  obtain ⟨a,b,c,d⟩:=x
  simp only at ho h1
  subst ho h1
  rfl
 ·rw [if_neg ho] at h
  simp only [Bool.and_eq_true,decide_eq_true_eq] at h
  obtain ⟨_,⟨h1,h2⟩,h3⟩:=h
  have e:(x.over != 0)=true:=by simpa using ho
  rw [e]
  simp only [if_true,ne_eq,ho,not_false_eq_true]
  rw [List.append_assoc,Rd.var_var _ ⟨by omega,by omega⟩]
  dsimp only
  rw [Rd.var_var _ ⟨by omega,by omega⟩]
  obtain ⟨a,b,c,d⟩:=x
  simp only [List.isEmpty_iff] at h3
  subst h3
  rfl
theorem Item.lay_ne (x:Item) (t:Bytes):x.lay++t≠[]:=by
 intro h
 have h2:=uvarint_pos (zigzag (x.key.length:Int))
 have h3:1<=(x.lay++t).length:=by
  simp only [Item.lay,textB,varB,List.length_append]
  omega
 rw [h] at h3
 simp at h3
theorem riseI_right:∀ {l:List Item},riseI l=true->∀ x∈l,x.right=true
 | [],_,x,hx=>by cases hx
 | [y],h,x,hx=>by rw [List.mem_singleton.1 hx];exact h
 | y :: z :: l,h,x,hx=>by
  simp only [riseI,Bool.and_eq_true] at h
  rcases List.mem_cons.1 hx with rfl | hx
  ·exact h.1.1
  ·exact riseI_right h.2 x hx
theorem Rd.items_lay:∀ (l:List Item),(∀ x∈l,x.right=true)->Rd.items ⟨layI l,0⟩=(l,⟨[],0⟩)
 | [],_=>by unfold Rd.items;rw [dif_neg (by simp [layI])];rfl
 | x :: l,h=>by
  have hx:=h x (List.mem_cons_self ..)
  unfold Rd.items
  have e:Rd.item ⟨layI (x :: l),0⟩=(x,⟨layI l,0⟩):=Rd.item_lay x hx _
  rw [dif_pos ⟨rfl,Item.lay_ne x _⟩]
  simp only [e]
  rw [dif_pos trivial,Rd.items_lay l λ y hy=>h y (List.mem_cons_of_mem _ hy)]
theorem getI_put {l:List Item} (h:riseI l=true) (hs:(layI l).length<=240):getI (layI l)=(l,0):=by
 unfold getI
 rw [Rd.items_lay l (riseI_right h)]
 have:putI l=(layI l,0):=by unfold putI;rw [if_neg (by simp [h]),if_neg (by omega)]
 simp [this]
def Child.lay (x:Child):Bytes:=textB x.key++varB x.page
def layC:List Child->Bytes
 | []=>[]
 | x :: l=>x.lay++layC l
def Child.fit (x:Child):Bool:=decide (2<=x.page) && decide (x.page<=4294967295) && decide (x.key.length<=40)
def riseC (k:Bytes):List Child->Bool
 | []=>true
 | x :: l=>x.fit && lessB k x.key && riseC x.key l
def rightC:List Child->Bool
 | []=>false
 | x :: l=>x.fit && x.key.isEmpty && riseC x.key l
def putC (l:List Child):Bytes × Int:=
 if rightC l=false then ([],1) else if 240<(layC l).length then ([],2) else (layC l,0)
def Rd.child (r:Rd):Child × Rd:=({ key:=(r.text 40).1,page:=(r.text 40).2.var.1 },(r.text 40).2.var.2)
theorem Rd.child_short {r:Rd} (h:r.child.2.e=0):r.child.2.b.length<r.b.length:=by
 unfold Rd.child at h ⊢
 have h1:=Rd.var_short h
 have h2:=r.text_le 40
 dsimp only at h1 ⊢
 omega
def Rd.children (r:Rd):List Child × Rd:=
 if h:r.e=0/\r.b≠[] then
  if h2:r.child.2.e=0 then
   (r.child.1 :: (Rd.children r.child.2).1,(Rd.children r.child.2).2)
  else ([r.child.1],r.child.2)
 else ([],r)
termination_by r.b.length
decreasing_by all_goals exact Rd.child_short h2
def getC (b:Bytes):List Child × Int:=
 let p:=Rd.children ⟨b,0⟩
 let q:=putC p.1
 if p.2.e≠0\/q.2≠0\/q.1≠b then ([],4) else (p.1,0)
theorem Child.fit_iff {x:Child}:x.fit=true↔2<=x.page/\x.page<=4294967295/\x.key.length<=40:=by
 unfold Child.fit
 simp [and_assoc]
theorem Rd.child_lay (x:Child) (h:x.fit=true) (t:Bytes):Rd.child ⟨x.lay++t,0⟩=(x,⟨t,0⟩):=by
 obtain ⟨h1,h2,h3⟩:=Child.fit_iff.1 h
 unfold Rd.child Child.lay
 rw [List.append_assoc,Rd.text_text _ _ (by omega) (by omega)]
 dsimp only
 rw [Rd.var_var _ ⟨by omega,by omega⟩]
theorem Child.lay_ne (x:Child) (t:Bytes):x.lay++t≠[]:=by
 intro h
 have h2:=uvarint_pos (zigzag x.page)
 have h3:1<=(x.lay++t).length:=by
  simp only [Child.lay,varB,List.length_append]
  omega
 rw [h] at h3
 simp at h3
theorem riseC_fit:∀ {l:List Child} {k:Bytes},riseC k l=true->∀ x∈l,x.fit=true
 | [],_,_,x,hx=>by cases hx
 | y :: l,k,h,x,hx=>by
  simp only [riseC,Bool.and_eq_true] at h
  rcases List.mem_cons.1 hx with rfl | hx
  ·exact h.1.1
  ·exact riseC_fit h.2 x hx
theorem rightC_fit:∀ {l:List Child},rightC l=true->∀ x∈l,x.fit=true
 | [],h,_,_=>by cases h
 | y :: l,h,x,hx=>by
  simp only [rightC,Bool.and_eq_true] at h
  rcases List.mem_cons.1 hx with rfl | hx
  ·exact h.1.1
  ·exact riseC_fit h.2 x hx
theorem Rd.children_lay:∀ (l:List Child),(∀ x∈l,x.fit=true)->Rd.children ⟨layC l,0⟩=(l,⟨[],0⟩)
 | [],_=>by unfold Rd.children;rw [dif_neg (by simp [layC])];rfl
 | x :: l,h=>by
  have hx:=h x (List.mem_cons_self ..)
  unfold Rd.children
  have e:Rd.child ⟨layC (x :: l),0⟩=(x,⟨layC l,0⟩):=Rd.child_lay x hx _
  rw [dif_pos ⟨rfl,Child.lay_ne x _⟩]
  simp only [e]
  rw [dif_pos trivial,Rd.children_lay l λ y hy=>h y (List.mem_cons_of_mem _ hy)]
theorem getC_put {l:List Child} (h:rightC l=true) (hs:(layC l).length<=240):getC (layC l)=(l,0):=by
 unfold getC
 rw [Rd.children_lay l (rightC_fit h)]
 have:putC l=(layC l,0):=by unfold putC;rw [if_neg (by simp [h]),if_neg (by omega)]
 simp [this]
end Go.Ev
namespace Go.Ev
structure Pg where
 kind:Int
 next:Int
 body:Bytes
deriving DecidableEq,Inhabited
abbrev Store:=Int->Option Pg
inductive ChainAt (M:Store):Int->Bytes->List Int->Prop
 | last {id:Int} {b:Bytes}:M id=some ⟨4,0,b⟩->1<=b.length->b.length<=240->ChainAt M id b [id]
 | more {id next:Int} {b rest:Bytes} {ids:List Int}:M id=some ⟨4,next,b⟩->b.length=240->next≠0->ChainAt M next rest ids->ChainAt M id (b++rest) (id :: ids)
def ValAt (M:Store) (x:Item) (v:Bytes) (ids:List Int):Prop:=
 (x.over=0/\v=x.val/\ids=[])\/(x.over≠0/\ChainAt M x.over v ids/\(v.length:Int)=x.size)
def LeafAt (M:Store):List Item->List Pair->List Int->Prop
 | [],ps,ids=>ps=[]/\ids=[]
 | x :: l,ps,ids=>∃ v ps' i1 i2,ps=(x.key,v) :: ps'/\ids=i1++i2/\ValAt M x v i1/\LeafAt M l ps' i2
def nextB (cs:List Child) (hi:Option Bytes):Option Bytes:=match cs with | []=>hi | c :: _=>some c.key
def Seg (T:Int->Bytes->Option Bytes->List Pair->List Int->Prop):List Child->Option Bytes->List Pair->List Int->Prop
 | [],_,ps,ids=>ps=[]/\ids=[]
 | c :: cs,hi,ps,ids=>∃ p1 p2 i1 i2,ps=p1++p2/\ids=i1++i2/\T c.page c.key (nextB cs hi) p1 i1/\Seg T cs hi p2 i2
def headKey (k:Bytes):List Child->List Child
 | []=>[]
 | c :: cs=>{ c with key:=k } :: cs
def inR (lo:Bytes) (hi:Option Bytes) (k:Bytes):Prop:=lessB k lo=false/\∀ h,hi=some h->lessB k h=true
def TreeAt (M:Store) (d:Nat):Nat->Int->Bytes->Option Bytes->List Pair->List Int->Prop
 | 0,id,lo,hi,ps,ids=>∃ items i2,M id=some ⟨2,0,layI items⟩/\riseI items=true/\(layI items).length<=240/\LeafAt M items ps i2/\ids=id :: i2/\∀ p∈ps,inR lo hi p.1
 | k+1,id,lo,hi,ps,ids=>∃ c L i2,M id=some ⟨3,0,layC (headKey [] (c :: L))⟩/\rightC (headKey [] (c :: L))=true/\(layC (headKey [] (c :: L))).length<=240/\d<=L.length+1/\c.key=lo ∧
   Seg (λ i l h p q=>TreeAt M d k i l h p q/\p≠[]) (c :: L) hi ps i2/\ids=id :: i2
def Sub (M:Store) (d k:Nat) (i:Int) (l:Bytes) (h:Option Bytes) (p:List Pair) (q:List Int):Prop:=TreeAt M d k i l h p q/\p≠[]
-- the same pages, the same tree
def SameOn (M M':Store) (ids:List Int):Prop:=∀ i∈ids,M' i=M i
theorem ChainAt.same {M M':Store} {id:Int} {v:Bytes} {ids:List Int} (h:ChainAt M id v ids) (hs:SameOn M M' ids):ChainAt M' id v ids:=by
 induction h with
 | last h1 h2 h3=>exact .last ((hs _ (List.mem_cons_self ..)).trans h1) h2 h3
 | more h1 h2 h3 _ ih=>exact .more ((hs _ (List.mem_cons_self ..)).trans h1) h2 h3 (ih λ i hi=>hs i (List.mem_cons_of_mem _ hi))
theorem SameOn.left {M M':Store} {a b:List Int} (h:SameOn M M' (a++b)):SameOn M M' a:=λ i hi=>h i (List.mem_append_left _ hi)
theorem SameOn.right {M M':Store} {a b:List Int} (h:SameOn M M' (a++b)):SameOn M M' b:=λ i hi=>h i (List.mem_append_right _ hi)
theorem ValAt.same {M M':Store} {x:Item} {v:Bytes} {ids:List Int} (h:ValAt M x v ids) (hs:SameOn M M' ids):ValAt M' x v ids:=by
 rcases h with h | ⟨h1,h2,h3⟩
 ·exact .inl h
 ·exact .inr ⟨h1,h2.same hs,h3⟩
theorem LeafAt.same {M M':Store}:∀ {l:List Item} {ps:List Pair} {ids:List Int},LeafAt M l ps ids->SameOn M M' ids->LeafAt M' l ps ids
 | [],_,_,h,_=>h
 | _ :: _,_,_,⟨v,ps',i1,i2,h1,h2,h3,h4⟩,hs=>by
  subst h2
  exact ⟨v,ps',i1,i2,h1,rfl,h3.same hs.left,h4.same hs.right⟩
theorem Seg.mono {T T':Int->Bytes->Option Bytes->List Pair->List Int->Prop}:∀ {L:List Child} {hi:Option Bytes} {ps:List Pair} {ids:List Int},Seg T L hi ps ids->(∀ i l h p q,(∀ x∈q,x∈ids)->T i l h p q->T' i l h p q)->Seg T' L hi ps ids
 | [],_,_,_,h,_=>h
 | _ :: _,_,_,_,⟨p1,p2,i1,i2,h1,h2,h3,h4⟩,hm=>by
  subst h2
  exact ⟨p1,p2,i1,i2,h1,rfl,hm _ _ _ _ _ (λ x hx=>List.mem_append_left _ hx) h3,h4.mono λ i l h p q hq=>hm i l h p q λ x hx=>List.mem_append_right _ (hq x hx)⟩
theorem TreeAt.same {M M':Store} {d:Nat}:∀ {k:Nat} {id:Int} {lo:Bytes} {hi:Option Bytes} {ps:List Pair} {ids:List Int},TreeAt M d k id lo hi ps ids->SameOn M M' ids->TreeAt M' d k id lo hi ps ids
 | 0,id,lo,hi,ps,ids,⟨items,i2,h1,h2,h3,h4,h5,h6⟩,hs=>by
  subst h5
  exact ⟨items,i2,(hs _ (List.mem_cons_self ..)).trans h1,h2,h3,h4.same λ i hi=>hs i (List.mem_cons_of_mem _ hi),rfl,h6⟩
 | k+1,id,lo,hi,ps,ids,⟨c,L,i2,h1,h2,h3,h4,h5,h6,h7⟩,hs=>by
  subst h7
  refine ⟨c,L,i2,(hs _ (List.mem_cons_self ..)).trans h1,h2,h3,h4,h5,h6.mono λ i l h p q hq ht=>⟨TreeAt.same ht.1 λ x hx=>hs x (List.mem_cons_of_mem _ (hq x hx)),ht.2⟩,rfl⟩
theorem Seg.append {T:Int->Bytes->Option Bytes->List Pair->List Int->Prop}:∀ {a b:List Child} {hi:Option Bytes} {ps:List Pair} {ids:List Int},
  Seg T (a++b) hi ps ids↔∃ p1 p2 i1 i2,ps=p1++p2/\ids=i1++i2/\Seg T a (nextB b hi) p1 i1/\Seg T b hi p2 i2
 | [],b,hi,ps,ids=>by
  constructor
  ·intro h
   exact ⟨[],ps,[],ids,rfl,rfl,⟨rfl,rfl⟩,h⟩
  ·rintro ⟨p1,p2,i1,i2,rfl,rfl,⟨rfl,rfl⟩,h⟩
   exact h
 | c :: a,b,hi,ps,ids=>by
  have hn:nextB (a++b) hi=nextB a (nextB b hi):=by cases a<;>rfl
  constructor
  ·rintro ⟨p1,p2,i1,i2,rfl,rfl,h3,h4⟩
   obtain ⟨p3,p4,i3,i4,rfl,rfl,h5,h6⟩:=Seg.append.1 h4
   exact ⟨p1++p3,p4,i1++i3,i4,by simp,by simp,⟨p1,p3,i1,i3,rfl,rfl,hn ▸ h3,h5⟩,h6⟩
  ·rintro ⟨p1,p2,i1,i2,rfl,rfl,⟨p3,p4,i3,i4,rfl,rfl,h5,h6⟩,h7⟩
   exact ⟨p3,p4++p2,i3,i4++i2,by simp,by simp,hn ▸ h5,Seg.append.2 ⟨p4,p2,i4,i2,rfl,rfl,h6,h7⟩⟩
theorem inR.mono {lo lo':Bytes} {hi hi':Option Bytes} {k:Bytes} (h:inR lo hi k) (h1:lessB lo lo'=false) (h2:∀ x,hi'=some x->∃ y,hi=some y/\lessB x y=false):inR lo' hi' k:=by
 refine ⟨lessB_le_trans h1 h.1,λ x hx=>?_⟩
 obtain ⟨y,hy,hl⟩:=h2 x hx
 exact lessB_of_lt_le (h.2 y hy) hl
theorem TreeAt.hi {M:Store} {d:Nat}:∀ {k:Nat} {id:Int} {lo:Bytes} {hi hi':Option Bytes} {ps:List Pair} {ids:List Int},TreeAt M d k id lo hi ps ids->(∀ x,hi'=some x->∃ y,hi=some y/\lessB x y=false)->TreeAt M d k id lo hi' ps ids
 | 0,id,lo,hi,hi',ps,ids,⟨items,i2,h1,h2,h3,h4,h5,h6⟩,hh=>⟨items,i2,h1,h2,h3,h4,h5,λ p hp=>(h6 p hp).mono (lessB_irrefl _) hh⟩
 | k+1,id,lo,hi,hi',ps,ids,⟨c,L,i2,h1,h2,h3,h4,h5,h6,h7⟩,hh=>by
  refine ⟨c,L,i2,h1,h2,h3,h4,h5,?_,h7⟩
  have:∀ (L:List Child) (ps:List Pair) (ids:List Int),Seg (λ i l h p q=>TreeAt M d k i l h p q/\p≠[]) L hi ps ids->Seg (λ i l h p q=>TreeAt M d k i l h p q/\p≠[]) L hi' ps ids:=by
   intro L
   induction L with
   | nil=>exact λ _ _ h=>h
   | cons c L ih =>
    rintro ps ids ⟨p1,p2,i1,i2,g1,g2,⟨g3,g4⟩,g5⟩
    refine ⟨p1,p2,i1,i2,g1,g2,⟨?_,g4⟩,ih _ _ g5⟩
    cases L with
    | nil=>exact TreeAt.hi g3 hh
    | cons c' L=>exact g3
  exact this _ _ _ h6
theorem TreeAt.lo {M:Store} {d:Nat}:∀ {k:Nat} {id:Int} {lo lo':Bytes} {hi:Option Bytes} {ps:List Pair} {ids:List Int},TreeAt M d k id lo hi ps ids->lessB lo lo'=false->TreeAt M d k id lo' hi ps ids
 | 0,id,lo,lo',hi,ps,ids,⟨items,i2,h1,h2,h3,h4,h5,h6⟩,hl=>⟨items,i2,h1,h2,h3,h4,h5,λ p hp=>(h6 p hp).mono hl (λ x hx=>⟨x,hx,lessB_irrefl _⟩)⟩
 | k+1,id,lo,lo',hi,ps,ids,⟨c,L,i2,h1,h2,h3,h4,h5,⟨p1,p2,i1,i3,g1,g2,⟨g3,g4⟩,g5⟩,h7⟩,hl =>
  ⟨{ c with key:=lo' },L,i2,h1,h2,h3,h4,rfl,⟨p1,p2,i1,i3,g1,g2,⟨TreeAt.lo g3 (h5 ▸ hl),g4⟩,g5⟩,h7⟩
theorem TreeAt.inR {M:Store} {d:Nat}:∀ {k:Nat} {id:Int} {lo:Bytes} {hi:Option Bytes} {ps:List Pair} {ids:List Int},TreeAt M d k id lo hi ps ids->∀ p∈ps,inR lo hi p.1
 | 0,id,lo,hi,ps,ids,⟨items,i2,h1,h2,h3,h4,h5,h6⟩=>h6
 | k+1,id,lo,hi,ps,ids,⟨c,L,i2,h1,h2,h3,h4,h5,h6,h7⟩=>by
  subst h5
  have:∀ (L:List Child) (c:Child) (ps:List Pair) (ids:List Int),Seg (λ i l h p q=>TreeAt M d k i l h p q/\p≠[]) (c :: L) hi ps ids->∀ p∈ps,Go.Ev.inR c.key hi p.1:=by
   intro L
   induction L with
   | nil =>
    rintro c ps ids ⟨p1,p2,i1,i2,rfl,g2,⟨g3,g4⟩,rfl,rfl⟩
    intro p hp
    rw [List.append_nil] at hp
    exact TreeAt.inR g3 p hp
   | cons c' L ih =>
    rintro c ps ids ⟨p1,p2,i1,i2,rfl,g2,⟨g3,g4⟩,g5⟩
    have hr:=ih c' p2 i2 g5
    obtain ⟨q1,q2,j1,j2,e1,e2,⟨f1,f2⟩,f3⟩:=_root_.id g5
    have hc:=TreeAt.inR g3
    -- a pair of the first child, and one of the second
    obtain ⟨x,hx⟩:=List.exists_mem_of_ne_nil _ g4
    obtain ⟨y,hy⟩:=List.exists_mem_of_ne_nil _ f2
    have hyr:=hr y (by rw [e1];exact List.mem_append_left _ hy)
    have hxc:=hc x hx
    have hcc:lessB c.key c'.key=true:=lessB_of_le_lt hxc.1 (hxc.2 c'.key rfl)
    intro p hp
    rcases List.mem_append.1 hp with hp | hp
    ·have hpc:=hc p hp
     refine ⟨hpc.1,λ h hh=>?_⟩
     exact lessB_trans (hpc.2 c'.key rfl) (lessB_of_le_lt hyr.1 (hyr.2 h hh))
    ·have hpr:=hr p hp
     exact ⟨lessB_le_trans (lessB_asymm hcc) hpr.1,hpr.2⟩
  exact this L c ps i2 h6
theorem Seg.inR {M:Store} {d k:Nat} {L:List Child} {c:Child} {hi:Option Bytes} {ps:List Pair} {ids:List Int} (h:Seg (Sub M d k) (c :: L) hi ps ids):∀ p∈ps,Go.Ev.inR c.key hi p.1:=by
 revert c ps ids
 induction L with
 | nil =>
  rintro c ps ids ⟨p1,p2,i1,i2,rfl,g2,⟨g3,g4⟩,rfl,rfl⟩
  intro p hp
  rw [List.append_nil] at hp
  exact TreeAt.inR g3 p hp
 | cons c' L ih =>
  rintro c ps ids ⟨p1,p2,i1,i2,rfl,g2,⟨g3,g4⟩,g5⟩
  have hr:=ih g5
  obtain ⟨q1,q2,j1,j2,e1,e2,⟨f1,f2⟩,f3⟩:=_root_.id g5
  have hc:=TreeAt.inR g3
  obtain ⟨x,hx⟩:=List.exists_mem_of_ne_nil _ g4
  obtain ⟨y,hy⟩:=List.exists_mem_of_ne_nil _ f2
  have hyr:=hr y (by rw [e1];exact List.mem_append_left _ hy)
  have hxc:=hc x hx
  have hcc:lessB c.key c'.key=true:=lessB_of_le_lt hxc.1 (hxc.2 c'.key rfl)
  intro p hp
  rcases List.mem_append.1 hp with hp | hp
  ·have hpc:=hc p hp
   refine ⟨hpc.1,λ h hh=>?_⟩
   exact lessB_trans (hpc.2 c'.key rfl) (lessB_of_le_lt hyr.1 (hyr.2 h hh))
  ·have hpr:=hr p hp
   exact ⟨lessB_le_trans (lessB_asymm hcc) hpr.1,hpr.2⟩
theorem leaf_rising {M:Store}:∀ {l:List Item} {ps:List Pair} {ids:List Int},LeafAt M l ps ids->riseI l=true->Rising ps/\ps.map (·.1)=l.map (·.key)
 | [],ps,ids,h,_=>by
  obtain ⟨rfl,rfl⟩:=h
  exact ⟨trivial,rfl⟩
 | [x],ps,ids,h,_=>by
  obtain ⟨v,ps',i1,i2,rfl,_,_,h4⟩:=h
  obtain ⟨rfl,rfl⟩:=h4
  exact ⟨⟨λ q hq=>by simp at hq,trivial⟩,rfl⟩
 | x :: y :: l,ps,ids,h,hr=>by
  obtain ⟨v,ps',i1,i2,rfl,_,_,h4⟩:=h
  simp only [riseI,Bool.and_eq_true] at hr
  obtain ⟨r1,r2⟩:=leaf_rising h4 hr.2
  refine ⟨⟨λ q hq=>?_,r1⟩,by simp [r2]⟩
  obtain ⟨v',ps'',j1,j2,rfl,_,_,_⟩:=h4
  rcases List.mem_cons.1 hq with rfl | hq
  ·exact hr.1.2
  ·exact lessB_trans hr.1.2 (r1.1 q hq)
theorem TreeAt.rising {M:Store} {d:Nat}:∀ {k:Nat} {id:Int} {lo:Bytes} {hi:Option Bytes} {ps:List Pair} {ids:List Int},TreeAt M d k id lo hi ps ids->Rising ps
 | 0,id,lo,hi,ps,ids,⟨items,i2,h1,h2,h3,h4,h5,h6⟩=>(leaf_rising h4 h2).1
 | k+1,id,lo,hi,ps,ids,⟨c,L,i2,h1,h2,h3,h4,h5,h6,h7⟩=>by
  have:∀ (L:List Child) (ps:List Pair) (ids:List Int),Seg (Sub M d k) L hi ps ids->Rising ps:=by
   intro L
   induction L with
   | nil=>rintro ps ids ⟨rfl,rfl⟩;trivial
   | cons c L ih =>
    rintro ps ids ⟨p1,p2,i1,i2,rfl,g2,⟨g3,g4⟩,g5⟩
    refine Rising.append.2 ⟨TreeAt.rising g3,ih _ _ g5,λ p hp q hq=>?_⟩
    cases L with
    | nil=>obtain ⟨rfl,rfl⟩:=g5;cases hq
    | cons c' L =>
     have h1:=(TreeAt.inR g3 p hp).2 c'.key rfl
     exact lessB_of_lt_le h1 (Seg.inR g5 q hq).1
  exact this _ _ _ h6
def ahead (k:Bytes):List Item->Nat
 | []=>0
 | x :: l=>if lessB x.key k then ahead k l+1 else 0
def isAt (k:Bytes):List Item->Bool
 | []=>false
 | x :: l=>if lessB x.key k then isAt k l else x.key==k
theorem ahead_le (k:Bytes):∀ l:List Item,ahead k l<=l.length
 | []=>Nat.le_refl _
 | x :: l=>by
  have:=ahead_le k l
  simp only [ahead,List.length_cons]
  split<;>omega
theorem riseI_tail:∀ {x:Item} {l:List Item},riseI (x :: l)=true->riseI l=true/\∀ y∈l,lessB x.key y.key=true
 | x,[],_=>⟨rfl,λ y hy=>by cases hy⟩
 | x,y :: l,h=>by
  simp only [riseI,Bool.and_eq_true] at h
  obtain ⟨h1,h2⟩:=riseI_tail h.2
  refine ⟨h.2,λ z hz=>?_⟩
  rcases List.mem_cons.1 hz with rfl | hz
  ·exact h.1.2
  ·exact lessB_trans h.1.2 (h2 z hz)
theorem riseI_cons {x:Item} {l:List Item} (hx:x.right=true) (hl:riseI l=true) (h:∀ y∈l,lessB x.key y.key=true):riseI (x :: l)=true:=by
 cases l with
 | nil=>exact hx
 | cons y l=>simp only [riseI,Bool.and_eq_true];exact ⟨⟨hx,h y (List.mem_cons_self ..)⟩,hl⟩
theorem riseI_append:∀ {a b:List Item},riseI (a++b)=true↔riseI a=true/\riseI b=true/\∀ x∈a,∀ y∈b,lessB x.key y.key=true
 | [],b=>by simp [riseI]
 | x :: a,b=>by
  constructor
  ·intro h
   have h':riseI (x :: (a++b))=true:=h
   obtain ⟨h1,h2⟩:=riseI_tail h'
   obtain ⟨h3,h4,h5⟩:=riseI_append.1 h1
   have hx:=riseI_right h' x (List.mem_cons_self ..)
   refine ⟨riseI_cons hx h3 λ y hy=>h2 y (List.mem_append_left _ hy),h4,λ z hz y hy=>?_⟩
   rcases List.mem_cons.1 hz with rfl | hz
   ·exact h2 y (List.mem_append_right _ hy)
   ·exact h5 z hz y hy
  ·rintro ⟨h1,h2,h3⟩
   obtain ⟨h4,h5⟩:=riseI_tail h1
   have hx:=riseI_right h1 x (List.mem_cons_self ..)
   refine riseI_cons hx (riseI_append.2 ⟨h4,h2,λ z hz=>h3 z (List.mem_cons_of_mem _ hz)⟩) λ y hy=>?_
   rcases List.mem_append.1 hy with hy | hy
   ·exact h5 y hy
   ·exact h3 x (List.mem_cons_self ..) y hy
theorem ahead_lt {k:Bytes}:∀ {l:List Item} {i:Nat},i<ahead k l->∃ x,l[i]? = some x/\lessB x.key k=true
 | [],_,h=>by simp [ahead] at h
 | x :: l,i,h=>by
  simp only [ahead] at h
  split at h
  ·rename_i hx
   cases i with
   | zero=>exact ⟨x,rfl,hx⟩
   | succ i=>exact ahead_lt (l:=l) (by omega)
  ·omega
theorem ahead_ge {k:Bytes}:∀ {l:List Item} {i:Nat} {x:Item},riseI l=true->ahead k l<=i->l[i]? = some x->lessB x.key k=false
 | [],_,_,_,_,hx=>by simp at hx
 | y :: l,i,x,hr,h,hx=>by
  obtain ⟨h1,h2⟩:=riseI_tail hr
  simp only [ahead] at h
  split at h
  ·cases i with
   | zero=>omega
   | succ i=>exact ahead_ge h1 (by omega) hx
  ·rename_i hy
   cases i with
   | zero=>cases hx;simpa using hy
   | succ i =>
    have hm:x∈l:=List.mem_of_getElem? hx
    cases hc:lessB x.key k
    ·rfl
    ·exact absurd (lessB_trans (h2 x hm) hc) hy
theorem isAt_iff {k:Bytes}:∀ {l:List Item},isAt k l=true↔∃ x,l[ahead k l]? = some x/\x.key=k
 | []=>by simp [isAt]
 | x :: l=>by
  simp only [isAt,ahead]
  split
  ·rw [isAt_iff]
   simp
  ·simp
def setI (l:List Item) (x:Item):List Item:=
 l.take (ahead x.key l)++x :: l.drop (if isAt x.key l then ahead x.key l+1 else ahead x.key l)
def delI (l:List Item) (k:Bytes):List Item:=
 if isAt k l then l.take (ahead k l)++l.drop (ahead k l+1) else l
theorem setI_nil (x:Item):setI [] x=[x]:=rfl
theorem setI_cons (y:Item) (l:List Item) (x:Item):setI (y :: l) x=if lessB y.key x.key then y :: setI l x else if y.key=x.key then x :: l else x :: y :: l:=by
 unfold setI
 simp only [ahead,isAt]
 split
 ·simp only [List.take_succ_cons,List.cons_append]
  split<;>simp
 ·split
  ·rename_i h1 h2
   have:y.key=x.key:=by simpa using h2
   simp [this]
  ·rename_i h1 h2
   have:¬ y.key=x.key:=by simpa using h2
   simp [this]
theorem setI_mem {l:List Item} {x z:Item} (h:z∈setI l x):z=x\/z∈l:=by
 unfold setI at h
 rcases List.mem_append.1 h with h | h
 ·exact .inr (List.mem_of_mem_take h)
 ·rcases List.mem_cons.1 h with h | h
  ·exact .inl h
  ·exact .inr (List.mem_of_mem_drop h)
theorem setI_rise:∀ {l:List Item} {x:Item},riseI l=true->x.right=true->riseI (setI l x)=true
 | [],x,_,hx=>hx
 | y :: l,x,hl,hx=>by
  obtain ⟨h1,h2⟩:=riseI_tail hl
  have hy:=riseI_right hl y (List.mem_cons_self ..)
  rw [setI_cons]
  split
  ·rename_i hlt
   refine riseI_cons hy (setI_rise h1 hx) λ z hz=>?_
   rcases setI_mem hz with rfl | hz
   ·exact hlt
   ·exact h2 z hz
  ·rename_i hn
   split
   ·rename_i he
    exact riseI_cons hx h1 λ z hz=>by rw [<- he];exact h2 z hz
   ·rename_i he
    have hgt:lessB x.key y.key=true:=by
     rcases lessB_total y.key x.key with h | h | h
     ·exact absurd h hn
     ·exact absurd h he
     ·exact h
    refine riseI_cons hx hl λ z hz=>?_
    rcases List.mem_cons.1 hz with rfl | hz
    ·exact hgt
    ·exact lessB_trans hgt (h2 z hz)
theorem delI_rise {l:List Item} {k:Bytes} (h:riseI l=true):riseI (delI l k)=true:=by
 unfold delI
 split
 ·have hs:riseI (l.take (ahead k l)++l.drop (ahead k l))=true:=by rw [List.take_append_drop];exact h
  obtain ⟨h1,h2,h3⟩:=riseI_append.1 hs
  refine riseI_append.2 ⟨h1,?_,λ x hx y hy=>h3 x hx y ?_⟩
  ·rw [<- List.drop_drop]
   cases hd:l.drop (ahead k l) with
   | nil=>rfl
   | cons z m=>rw [hd] at h2;exact (riseI_tail h2).1
  ·rw [<- List.drop_drop] at hy
   exact List.mem_of_mem_drop hy
 ·exact h
def below (k:Bytes):List Child->Nat
 | []=>0
 | c :: l=>if lessB k c.key then 0 else below k l+1
def findC (k:Bytes) (l:List Child):Nat:=below k l.tail
theorem below_le (k:Bytes):∀ l:List Child,below k l<=l.length
 | []=>Nat.le_refl _
 | x :: l=>by
  have:=below_le k l
  simp only [below,List.length_cons]
  split<;>omega
theorem riseC_tail:∀ {k:Bytes} {l:List Child},riseC k l=true->∀ y∈l,lessB k y.key=true
 | _,[],_,y,hy=>by cases hy
 | k,x :: l,h,y,hy=>by
  simp only [riseC,Bool.and_eq_true] at h
  rcases List.mem_cons.1 hy with rfl | hy
  ·exact h.1.2
  ·exact lessB_trans h.1.2 (riseC_tail h.2 y hy)
theorem below_lt {k:Bytes}:∀ {l:List Child} {i:Nat},i<below k l->∃ x,l[i]? = some x/\lessB k x.key=false
 | [],_,h=>by simp [below] at h
 | x :: l,i,h=>by
  simp only [below] at h
  split at h
  ·omega
  ·rename_i hx
   cases i with
   | zero=>exact ⟨x,rfl,by simpa using hx⟩
   | succ i=>exact below_lt (l:=l) (by omega)
theorem below_ge {k k0:Bytes}:∀ {l:List Child} {i:Nat} {x:Child},riseC k0 l=true->below k l<=i->l[i]? = some x->lessB k x.key=true
 | [],_,_,_,_,hx=>by simp at hx
 | y :: l,i,x,hr,h,hx=>by
  simp only [riseC,Bool.and_eq_true] at hr
  simp only [below] at h
  split at h
  ·rename_i hy
   cases i with
   | zero=>cases hx;exact hy
   | succ i=>exact lessB_trans hy (riseC_tail hr.2 x (List.mem_of_getElem? hx))
  ·cases i with
   | zero=>omega
   | succ i=>exact below_ge hr.2 (by omega) hx
-- the best part in two
def bestFrom (cost:Nat->Nat):Nat->Nat->Nat->Nat
 | 0,_,best=>best
 | n+1,i,best=>bestFrom cost n (i+1) (if best=0\/cost i<cost best then i else best)
def bestAt (cost:Nat->Nat) (n:Nat):Nat:=bestFrom cost (n-1) 1 0
theorem bestFrom_spec (cost:Nat->Nat):∀ (n i best:Nat),best<i->1<=i->(best=0->i=1)->(∀ j,1<=j->j<i->cost best<=cost j)->(1<=n\/1<=best) →
  1<=bestFrom cost n i best/\bestFrom cost n i best<i+n/\∀ j,1<=j->j<i+n->cost (bestFrom cost n i best)<=cost j
 | 0,i,best,h1,h2,h3,h4,h5=>by
  simp only [bestFrom]
  exact ⟨by omega,by omega,λ j hj1 hj2=>h4 j hj1 (by omega)⟩
 | n+1,i,best,h1,h2,h3,h4,h5=>by
  simp only [bestFrom]
  by_cases hc:best=0\/cost i<cost best
  ·rw [if_pos hc]
   have:=bestFrom_spec cost n (i+1) i (by omega) (by omega) (by omega) (λ j hj1 hj2=>by
    by_cases hj:j=i
    ·subst hj;exact Nat.le_refl _
    ·rcases hc with hc | hc
     ·have:=h3 hc;omega
     ·have:=h4 j hj1 (by omega);omega) (.inr (by omega))
   refine ⟨this.1,by omega,λ j hj1 hj2=>this.2.2 j hj1 (by omega)⟩
  ·rw [if_neg hc]
   have hb:best≠0:=λ h=>hc (.inl h)
   have hle:cost best<=cost i:=Nat.le_of_not_lt λ h=>hc (.inr h)
   have:=bestFrom_spec cost n (i+1) best (by omega) (by omega) (λ h=>absurd h hb) (λ j hj1 hj2=>by
    by_cases hj:j=i
    ·subst hj;exact hle
    ·exact h4 j hj1 (by omega)) (.inr (by omega))
   refine ⟨this.1,by omega,λ j hj1 hj2=>this.2.2 j hj1 (by omega)⟩
theorem bestAt_spec (cost:Nat->Nat) {n:Nat} (h:2<=n):1<=bestAt cost n/\bestAt cost n<n/\∀ j,1<=j->j<n->cost (bestAt cost n)<=cost j:=by
 have:=bestFrom_spec cost (n-1) 1 0 (by omega) (by omega) (by omega) (λ j h1 h2=>by omega) (.inl (by omega))
 unfold bestAt
 refine ⟨this.1,by omega,λ j h1 h2=>this.2.2 j h1 (by omega)⟩
def costI (l:List Item) (i:Nat):Nat:=max (layI (l.take i)).length (layI (l.drop i)).length
def costC (l:List Child) (i:Nat):Nat:=max (layC (l.take i)).length (layC (l.drop i)).length
def splitI (l:List Item):List Item × List Item:=if l.length<2 then (l,[]) else (l.take (bestAt (costI l) l.length),l.drop (bestAt (costI l) l.length))
def splitC (l:List Child):List Child × List Child:=if l.length<2 then (l,[]) else (l.take (bestAt (costC l) l.length),l.drop (bestAt (costC l) l.length))
theorem layI_append:∀ a b:List Item,layI (a++b)=layI a++layI b
 | [],_=>rfl
 | x :: a,b=>by simp [layI,layI_append a b]
theorem layC_append:∀ a b:List Child,layC (a++b)=layC a++layC b
 | [],_=>rfl
 | x :: a,b=>by simp [layC,layC_append a b]
end Go.Ev
