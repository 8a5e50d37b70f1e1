/-
  Texts of this claim.
-/
import Derived.Test.YtmfoiaaehkandaaGreatDoorMBGvHard
set_option linter.unusedVariables false
set_option linter.unusedSimpArgs false
namespace Go.Ev
open Go.Lib
def LaidG (M:Store) (all kids:List Child) (M':Store) (new:List Int):Prop:=(all=[]/\kids=[]/\M'=M/\new=[])\/(all≠[]/\Laid M [] all kids M' new)
inductive UpsG (M:Store) (kids:List Child):List (Int × Nat × List Child)->Store->List Child->List Int->Prop
 | nil:UpsG M kids [] M kids []
 | snoc {pre:List (Int × Nat × List Child)} {M1 M2:Store} {kids1 kids2:List Child} {new new2:List Int} {id:Int} {i:Nat} {L:List Child} {c:Child}:UpsG M kids pre M1 kids1 new->L[i]? = some c->LaidG M1 (allC L i c kids1) kids2 M2 new2->UpsG M kids (pre++[(id,i,L)]) M2 kids2 (new++new2)
theorem UpsG.last {M M2:Store} {kids kids2:List Child} {pre:List (Int × Nat × List Child)} {id:Int} {i:Nat} {L:List Child} {nn:List Int} (h:UpsG M kids (pre++[(id,i,L)]) M2 kids2 nn) :
  ∃ M1 kids1 new new2 c,UpsG M kids pre M1 kids1 new/\L[i]? = some c/\LaidG M1 (allC L i c kids1) kids2 M2 new2/\nn=new++new2:=by
 generalize hG:pre++[(id,i,L)]=G at h
 cases h with
 | nil=>simp at hG
 | snoc h1 h2 h3 =>
  obtain ⟨e1,e2⟩:=List.append_inj' hG rfl
  simp only [List.cons.injEq,Prod.mk.injEq,and_true] at e2
  obtain ⟨_,rfl,rfl⟩:=e2
  subst e1
  exact ⟨_,_,_,_,_,h1,h2,h3,rfl⟩
theorem UpsG.none {M M2:Store} {kids kids2:List Child} {nn:List Int} (h:UpsG M kids [] M2 kids2 nn):M2=M/\kids2=kids/\nn=[]:=by
 generalize hG:([]:List (Int × Nat × List Child))=G at h
 cases h with
 | nil=>exact ⟨rfl,rfl,rfl⟩
 | snoc h1 h2 h3=>simp at hG
structure KidsG (kids:List Child):Prop where
 two:kids.length<=2
 fit:∀ x∈kids,x.fit=true
theorem KidsFit.g {kids:List Child} (h:KidsFit kids):KidsG kids:=⟨h.two,h.fit⟩
def AllFitG (M1:Store) (kids0:List Child) (G:List (Int × Nat × List Child)):Prop:=
 ∀ pre s post M2 kids1 new,G=pre++s :: post->UpsG M1 kids0 pre M2 kids1 new->∀ c,s.2.2[s.2.1]? = some c->KidsG kids1/\(allC s.2.2 s.2.1 c kids1≠[]->FitP (allC s.2.2 s.2.1 c kids1))
def MeasG (M M2:Store) (k:Nat) (id:Int) (kids:List Child) (a s0:Nat):Prop:=
 ∃ s:Nat->Nat,s 0=s0/\kids.length<=1+s k/\measL potI potB M2 k kids 0+68*s0<=meas potI potB M k id 0+a/\(∀ l,l<k->measL potI potB M2 k kids (l+1)+94*s (l+1)<=meas potI potB M k id (l+1)+51*s l) ∧
  ∀ l,l<=k->measL (λ _=>1) (λ _=>1) M2 k kids l<=meas (λ _=>1) (λ _=>1) M k id l+s l
theorem measL_app (f:List Item->Nat) (g:List Child->Nat) (M:Store) (k:Nat) (a b:List Child) (l:Nat):measL f g M k (a++b) l=measL f g M k a l+measL f g M k b l:=sumN_app _ a b
theorem seg_meas {f:List Item->Nat} {g:List Child->Nat} {M M':Store} {d k:Nat} {hi:Option Bytes}:∀ {L:List Child} {ps:List Pair} {ids:List Int},Seg (Sub M d k) L hi ps ids->SameOn M M' ids->∀ l,measL f g M' k L l=measL f g M k L l
 | [],_,_,_,_,_=>rfl
 | c :: L,_,_,⟨p1,p2,i1,i2,_,h2,h3,h4⟩,hs,l=>by
  subst h2
  show meas f g M' k c.page l+measL f g M' k L l=meas f g M k c.page l+measL f g M k L l
  rw [meas_same h3.1 (SameOn.left hs),seg_meas h4 (SameOn.right hs)]
theorem meas_up {f:List Item->Nat} {g:List Child->Nat} {M:Store} {k:Nat} {id:Int} {L:List Child} (h:M id=some ⟨3,0,layC L⟩) (hr:rightC L=true) (hs:(layC L).length<=240):meas f g M (k+1) id (k+1)=g L/\∀ l,l<=k->meas f g M (k+1) id l=measL f g M k L l:=by
 simp only [meas,kidsAt_of h hr hs,if_true,true_and]
 intro l hl
 rw [if_neg (by omega)]
 rfl
theorem laid_meas {M M2:Store} {d k:Nat} {hi:Option Bytes} {ps:List Pair} {ids new2:List Int} {R all kids2:List Child} (hall:all=headKey [] R) (hne:all≠[]) (hs:Seg (Sub M d k) R hi ps ids) (hf:FitP all) (h:Laid M [] all kids2 M2 new2) :
  ∃ σ,σ<=1/\kids2.length=1+σ/\measL potI potB M2 (k+1) kids2 (k+1)+94*σ<=potB all/\measL (λ _=>1) (λ _=>1) M2 (k+1) kids2 (k+1)=1+σ/\∀ (f:List Item->Nat) (g:List Child->Nat) l,l<=k->measL f g M2 (k+1) kids2 l=measL f g M k R l:=by
 subst hall
 rcases h with ⟨i,h1,h2,h3,h4,rfl,rfl,rfl⟩ | ⟨z,ra,y,rb,i1,i2,h1,h2,h3,h4,h5,h6,h7,h8,rfl,rfl,rfl⟩
 ·have hg:Grow M (updS M i (some ⟨3,0,layC (headKey [] R)⟩)) [i]:=Grow.one h2
  have hi:updS M i (some ⟨3,0,layC (headKey [] R)⟩) i=some ⟨3,0,layC (headKey [] R)⟩:=by unfold updS;simp
  have hm:∀ (f:List Item->Nat) (g:List Child->Nat),_:=λ f g=>meas_up (f:=f) (g:=g) (k:=k) hi hf.right h1
  refine ⟨0,by omega,rfl,?_,?_,λ f g l hl=>?_⟩
  ·show meas potI potB _ (k+1) i (k+1)+0+94*0<=_
   rw [(hm _ _).1]
   omega
  ·show meas _ _ _ (k+1) i (k+1)+0=_
   rw [(hm _ _).1]
  ·show meas f g _ (k+1) i l+0=_
   rw [(hm f g).2 l hl,measL_head,seg_meas hs (hg.sameOn (seg_there hs))]
   rfl
 ·have happ:=splitC_app h2
  obtain ⟨_,z',ra',y',rb',e0,r1,r2,r3,r4,r5,r6⟩:=hf.fit.resolve_left (by omega)
  rw [h2] at e0
  simp only [Prod.mk.injEq,List.cons.injEq] at e0
  obtain ⟨⟨rfl,rfl⟩,rfl,rfl⟩:=e0
  have g1:Grow M (updS M i1 (some ⟨3,0,layC (headKey [] (z :: ra))⟩)) [i1]:=Grow.one h3
  have g2:=Grow.one (x:=⟨3,0,layC (headKey [] (y :: rb))⟩) h6
  have hg:=g1.trans g2
  have hn12:i1≠i2:=by
   rintro rfl
   simp [updS] at h6
  have q1:updS (updS M i1 (some ⟨3,0,layC (headKey [] (z :: ra))⟩)) i2 (some ⟨3,0,layC (headKey [] (y :: rb))⟩) i1=some ⟨3,0,layC (headKey [] (z :: ra))⟩:=by
   unfold updS
   rw [if_neg hn12,if_pos rfl]
  have q2:updS (updS M i1 (some ⟨3,0,layC (headKey [] (z :: ra))⟩)) i2 (some ⟨3,0,layC (headKey [] (y :: rb))⟩) i2=some ⟨3,0,layC (headKey [] (y :: rb))⟩:=by
   unfold updS
   rw [if_pos rfl]
  have m1:∀ (f:List Item->Nat) (g:List Child->Nat),_:=λ f g=>meas_up (f:=f) (g:=g) (k:=k) q1 r1 r3
  have m2:∀ (f:List Item->Nat) (g:List Child->Nat),_:=λ f g=>meas_up (f:=f) (g:=g) (k:=k) q2 r2 r4
  have hsp:=potB_split (λ x hx=>rightC_fit hf.right x hx) h1 hf.len (by rw [<- happ,List.length_append];simp;omega) h2
  refine ⟨1,by omega,rfl,?_,?_,λ f g l hl=>?_⟩
  ·show meas potI potB _ (k+1) i1 (k+1)+(meas potI potB _ (k+1) i2 (k+1)+0)+94*1<=_
   rw [(m1 _ _).1,(m2 _ _).1]
   omega
  ·show meas _ _ _ (k+1) i1 (k+1)+(meas _ _ _ (k+1) i2 (k+1)+0)=_
   rw [(m1 _ _).1,(m2 _ _).1]
  ·show meas f g _ (k+1) i1 l+(meas f g _ (k+1) i2 l+0)=_
   rw [(m1 f g).2 l hl,(m2 f g).2 l hl,measL_head,measL_head,Nat.add_zero,<- measL_app,happ,measL_head,seg_meas hs (hg.sameOn (seg_there hs))]
theorem allC_vsz {L kids:List Child} {i:Nat} {x:Child} (hx:L[i]? = some x) (hL:∀ z∈L,z.fit=true) (hk:∀ z∈kids,z.fit=true):vsz (allC L i x kids)<=vsz L+51*(kids.length-1):=by
 have hil:i<L.length:=(List.getElem?_eq_some_iff.1 hx).1
 have hxk:x.key.length<=40:=(Child.fit_iff.1 (hL x (List.mem_of_getElem? hx))).2.2
 have hsp:vsz L=vsz (L.take i)+(x.vlen+vsz (L.drop (i+1))):=by
  have e:L.drop i=x :: L.drop (i+1):=by
   rw [List.drop_eq_getElem_cons hil]
   rw [List.getElem?_eq_getElem hil,Option.some.injEq] at hx
   rw [hx]
  have:vsz L=vsz (L.take i++L.drop i):=by rw [List.take_append_drop]
  rw [this,vsz_app,e]
  rfl
 have hfit:∀ z∈L.take i++headKey x.key kids++L.drop (i+1),z.fit=true:=λ z hz=>by
  rcases List.mem_append.1 hz with hz | hz
  ·rcases List.mem_append.1 hz with hz | hz
   ·exact hL z (List.mem_of_mem_take hz)
   ·exact headKey_fit' hxk hk z hz
  ·exact hL z (List.mem_of_mem_drop hz)
 have h1:=vsz_head_le hfit
 have h2:vsz (headKey x.key kids)<=x.vlen+51*(kids.length-1):=by
  cases kids with
  | nil=>simp [headKey,vsz]
  | cons c l =>
   have h3:∀ l:List Child,(∀ z∈l,z.fit=true)->vsz l<=51*l.length:=by
    intro l
    induction l with
    | nil=>intro _;simp [vsz]
    | cons z l ih =>
     intro h
     have q1:=(vlen_le (h z (List.mem_cons_self ..))).1
     have q2:=ih λ w hw=>h w (List.mem_cons_of_mem _ hw)
     simp only [vsz,List.length_cons]
     omega
   have h4:=h3 l λ z hz=>hk z (List.mem_cons_of_mem _ hz)
   simp only [headKey,vsz,List.length_cons,Nat.add_sub_cancel]
   have:({ c with key:=x.key }:Child).vlen=x.vlen:=rfl
   omega
 unfold allC
 rw [vsz_app,vsz_app] at h1
 omega
def UpsTreeG (M M1:Store) (kids0:List Child) (new0 gone:List Int) (a s0:Nat) (id:Int) (G:List (Int × Nat × List Child)) (k:Nat) (lo:Bytes) (hi:Option Bytes) (ps:List Pair) (ids:List Int):Prop:=
 ∀ M2 kids1 new,UpsG M1 kids0 G M2 kids1 new->Grow M M2 (new0++new)/\KidsG kids1/\∃ idk,Seg (Sub M2 1 k) (headKey lo kids1) hi ps idk/\(idk++gone++G.map (·.1)).Perm (ids++new0++new)/\MeasG M M2 k id kids1 a s0
def RowG (M M1:Store) (kids0:List Child) (new0 gone:List Int) (a s0:Nat) (id:Int) (G:List (Int × Nat × List Child)) (k:Nat) (lo:Bytes) (hi:Option Bytes) (ps:List Pair) (ids:List Int):Prop:=
 ∀ pre s M2 kids1 new c,G=pre++[s]->UpsG M1 kids0 pre M2 kids1 new->s.2.2[s.2.1]? = some c->s.1=id/\Grow M M2 (new0++new)/\∃ j R idf,k=j+1/\allC s.2.2 s.2.1 c kids1=headKey [] R/\(∀ c' L2,R=c' :: L2->c'.key=lo)/\Seg (Sub M2 1 j) R hi ps idf ∧
  (idf++gone++(pre.map (·.1)++[id])).Perm (ids++new0++new)/\∃ s':Nat->Nat,s' 0=s0/\measL potI potB M2 j R 0+68*s0<=meas potI potB M k id 0+a/\(∀ l,l<j->measL potI potB M2 j R (l+1)+94*s' (l+1)<=meas potI potB M k id (l+1)+51*s' l) ∧
   ∀ l,l<=j->measL (λ _=>1) (λ _=>1) M2 j R l<=meas (λ _=>1) (λ _=>1) M k id l+s' l
structure TurnAt (key:Bytes) (F:List Pair->List Pair):Prop where
 pre:∀ a b:List Pair,(∀ q∈a,lessB q.1 key=true)->F (a++b)=a++F b
 post:∀ a b:List Pair,(∀ q∈b,lessB key q.1=true)->F (a++b)=F a++b
theorem TurnAt.ins (key v:Bytes):TurnAt key (insP key v):=⟨λ _ _ h=>insP_pre h,λ _ _ h=>insP_post h⟩
theorem TurnAt.del (key:Bytes):TurnAt key (delP key):=⟨λ _ _ h=>delP_pre λ q hq=>lessB_ne (h q hq),λ _ _ h=>delP_post λ q hq=>(lessB_ne (h q hq)).symm⟩
theorem Seg.widen {M:Store} {d k:Nat} {hi hi':Option Bytes} (hh:∀ x,hi'=some x->∃ y,hi=some y/\lessB x y=false):∀ {L:List Child} {ps:List Pair} {ids:List Int},Seg (Sub M d k) L hi ps ids->Seg (Sub M d k) L hi' ps ids
 | [],_,_,h=>h
 | c :: L,_,_,⟨p1,p2,i1,i2,g1,g2,⟨g3,g4⟩,g5⟩=>by
  refine ⟨p1,p2,i1,i2,g1,g2,⟨?_,g4⟩,Seg.widen hh g5⟩
  cases L with
  | nil=>exact TreeAt.hi g3 hh
  | cons c' L=>exact g3
theorem Seg.low {M:Store} {d k:Nat} {hi:Option Bytes} {lo:Bytes} {L:List Child} {ps:List Pair} {ids:List Int} (h:Seg (Sub M d k) L hi ps ids) (hl:∀ c B,L=c :: B->lessB c.key lo=false):Seg (Sub M d k) (headKey lo L) hi ps ids:=by
 cases L with
 | nil=>exact h
 | cons c L =>
  obtain ⟨p1,p2,i1,i2,g1,g2,⟨g3,g4⟩,g5⟩:=h
  exact ⟨p1,p2,i1,i2,g1,g2,⟨TreeAt.lo g3 (hl c L rfl),g4⟩,g5⟩
set_option maxHeartbeats 1000000 in
theorem ups_lawG {M:Store} {key:Bytes} {lid:Int} {items:List Item} {F:List Pair->List Pair} (hF0:TurnAt key F) :
  ∀ {k:Nat} {id:Int} {P:List (Int × Nat × List Child)} {lo:Bytes} {hi:Option Bytes} {ps:List Pair} {ids:List Int},TreeAt M 1 k id lo hi ps ids->inR lo hi key->Trail M key id P lid items →
  ∃ lo' hi' ps' ids',TreeAt M 1 0 lid lo' hi' ps' ids'/\inR lo' hi' key/\(ps≠[]->ps'≠[])/\(∀ x∈ids',x∈ids)/\(∀ q∈ps',q∈ps)/\(∀ x,getP key ps=some x↔getP key ps'=some x)/\∀ M1 kids0 new0 gone a s0,Grow M M1 new0->KidsG kids0->MeasG M M1 0 lid kids0 a s0 →
   (∃ idl,Seg (Sub M1 1 0) (headKey lo' kids0) hi' (F ps') idl/\(idl++gone).Perm (ids'++new0))->AllFitG M1 kids0 P.reverse/\UpsTreeG M M1 kids0 new0 gone a s0 id P.reverse k lo hi (F ps) ids/\RowG M M1 kids0 new0 gone a s0 id P.reverse k lo hi (F ps) ids
 | 0,id,P,lo,hi,ps,ids,ht,hin,hw=>by
  have ht':=ht
  obtain ⟨its,i2,h1,h2,h3,h4,h5,h6⟩:=ht
  cases hw with
  | branch g1=>rw [h1] at g1;simp at g1
  | leaf g1 g2 g3 =>
   refine ⟨lo,hi,ps,ids,ht',hin,λ h=>h,λ x hx=>hx,λ q hq=>hq,λ x=>Iff.rfl,λ M1 kids0 new0 gone a s0 hg hk hm hl=>⟨?_,?_,?_⟩⟩
   ·rintro pre s post M2 kids1 new hG
    simp at hG
   ·intro M2 kids1 new hu
    obtain ⟨rfl,rfl,rfl⟩:=UpsG.none hu
    obtain ⟨idl,q1,q2⟩:=hl
    exact ⟨by simpa using hg,hk,idl,q1,by simpa using q2,hm⟩
   ·intro pre s M2 kids1 new c hG
    simp at hG
 | k+1,id,P,lo,hi,ps,ids,ht,hin,hw=>by
  obtain ⟨c,L,i2,h1,h2,h3,h4,h5,h6,h7⟩:=ht
  cases hw with
  | leaf g1=>rw [h1] at g1;simp at g1
  | @branch _ _ L' _ x P' g1 g2 g3 g4 g5 =>
   have hL:L'=headKey [] (c :: L):=by
    rw [h1] at g1
    simp only [Option.some.injEq,Pg.mk.injEq,true_and] at g1
    exact (layC_inj h2 g2 h3 g1).symm
   subst hL
   have hri:riseC [] L=true:=(rightC_cons.1 h2).2.2
   have hfc:findC key (headKey [] (c :: L))=below key L:=rfl
   rw [hfc] at g4 ⊢
   generalize hi0:below key L=i at *
   have hil:i<(c :: L).length:=by have:=below_le key L;simp;omega
   obtain ⟨y,hy⟩:∃ y,(c :: L)[i]? = some y:=⟨_,List.getElem?_eq_getElem hil⟩
   have hxy:x.page=y.page/\(i≠0->x=y)/\(i=0->y=c):=by
    cases i with
    | zero =>
     simp only [headKey,List.getElem?_cons_zero,Option.some.injEq] at g4 hy
     subst g4;subst hy
     exact ⟨rfl,λ h=>absurd rfl h,λ _=>rfl⟩
    | succ i =>
     simp only [headKey,List.getElem?_cons_succ] at g4 hy
     rw [g4] at hy
     cases hy
     exact ⟨rfl,λ _=>rfl,λ h=>by omega⟩
   have hF:c :: L=(c :: L).take i++y :: (c :: L).drop (i+1):=by
    have e:(c :: L).drop i=y :: (c :: L).drop (i+1):=by
     rw [List.drop_eq_getElem_cons hil]
     rw [List.getElem?_eq_getElem hil,Option.some.injEq] at hy
     rw [hy]
    rw [<- e,List.take_append_drop]
   have hdr:(headKey [] (c :: L)).drop (i+1)=(c :: L).drop (i+1):=by simp [headKey]
   have hB0:(c :: L).drop (i+1)=L.drop i:=by simp
   have hylo:lessB key y.key=false:=by
    by_cases h0:i=0
    ·rw [hxy.2.2 h0,h5];exact hin.1
    ·obtain ⟨z,z1,z2⟩:=below_lt (k:=key) (l:=L) (i:=i-1) (by omega)
     have:(c :: L)[i]? = some z:=by
      obtain ⟨j,rfl⟩:∃ j,i=j+1:=⟨i-1,by omega⟩
      simpa using z1
     rw [hy] at this
     cases this
     exact z2
   have hBhi:∀ b B',(c :: L).drop (i+1)=b :: B'->lessB key b.key=true:=by
    intro b B' hb
    rw [hB0] at hb
    have hlt:i<L.length:=by
     rcases Nat.lt_or_ge i L.length with h | h
     ·exact h
     ·rw [List.drop_of_length_le h] at hb;cases hb
    rw [List.drop_eq_getElem_cons hlt] at hb
    have hb1:=(List.cons.inj hb).1
    exact below_ge hri (by omega:below key L<=i) (by rw [List.getElem?_eq_getElem hlt,hb1])
   generalize hA:(c :: L).take i=A at *
   generalize hB:(c :: L).drop (i+1)=B at *
   clear hB0
   have hs:=h6
   rw [hF] at hs
   obtain ⟨p1,pr,j1,jr,rfl,rfl,s1,s2⟩:=Seg.append.1 hs
   obtain ⟨p2,p3,j2,j3,rfl,rfl,⟨s3,s4⟩,s5⟩:=s2
   have hyhi:∀ h,nextB B hi=some h->lessB key h=true:=by
    intro h hh
    cases hBB:B with
    | nil=>rw [hBB] at hh;exact hin.2 h hh
    | cons b B' =>
     rw [hBB] at hh
     have:=hBhi b B' hBB
     simp only [nextB,Option.some.injEq] at hh
     rw [<- hh];exact this
   have hp1:∀ q∈p1,lessB q.1 key=true:=by
    intro q hq
    cases hAA:A with
    | nil=>rw [hAA] at s1;rw [s1.1] at hq;simp at hq
    | cons a A' =>
     rw [hAA] at s1
     exact lessB_of_lt_le ((Seg.inR s1 q hq).2 y.key rfl) hylo
   have hp3:∀ q∈p3,lessB key q.1=true:=by
    intro q hq
    cases hBB:B with
    | nil=>rw [hBB] at s5;rw [s5.1] at hq;simp at hq
    | cons b B' =>
     have hk1:=hBhi b B' hBB
     rw [hBB] at s5
     exact lessB_of_lt_le hk1 (Seg.inR s5 q hq).1
   have hgp:∀ u,getP key (p1++(p2++p3))=some u↔getP key p2=some u:=by
    intro u
    rw [getP_pre λ q hq=>lessB_ne (hp1 q hq),getP_post λ q hq=>(lessB_ne (hp3 q hq)).symm]
   have hins:F (p1++(p2++p3))=p1++(F p2++p3):=by
    rw [hF0.pre _ _ hp1,hF0.post _ _ hp3]
   -- the gap that a child leaves
   have hgap:∀ z,nextB B hi=some z->lessB z y.key=false:=by
    intro z hz
    obtain ⟨q,hq⟩:=List.exists_mem_of_ne_nil _ s4
    have hqr:=s3.inR q hq
    exact lessB_asymm (lessB_of_le_lt hqr.1 (hqr.2 z hz))
   have hylo2:A=[]->y.key=lo:=λ hAe=>by
    have h0:i=0:=by
     have:=congrArg List.length hA
     rw [hAe,List.length_take] at this
     simp at this hil
     omega
    rw [hxy.2.2 h0];exact h5
   rw [hxy.1] at g5
   obtain ⟨lo',hi',ps',ids',t1,t2,t3,t4,t4',t5,t6⟩:=ups_lawG hF0 s3 ⟨hylo,hyhi⟩ g5
   refine ⟨lo',hi',ps',ids',t1,t2,λ _=>t3 s4,λ z hz=>?_,λ q hq=>List.mem_append_right _ (List.mem_append_left _ (t4' q hq)),λ u=>(hgp u).trans (t5 u),λ M1 kids0 new0 gone a s0 hg hk hm hl=>?_⟩
   ·rw [h7]
    exact List.mem_cons_of_mem _ (List.mem_append_right _ (List.mem_append_left _ (t4 z hz)))
   ·obtain ⟨u1,u2,_⟩:=t6 M1 kids0 new0 gone a s0 hg hk hm hl
    -- what comes at this branch
    have here:∀ M2 kids1 new,UpsG M1 kids0 P'.reverse M2 kids1 new->KidsG kids1/\Grow M M2 (new0++new)/\∃ R idf,allC (headKey [] (c :: L)) i x kids1=headKey [] R/\(∀ c' L2,R=c' :: L2->c'.key=lo)/\Seg (Sub M2 1 k) R hi (p1++(F p2++p3)) idf/\(R≠[]->FitP (headKey [] R))/\(idf++gone++P'.reverse.map (·.1)).Perm (j1++(j2++j3)++new0++new)/\MeasG M M2 k y.page kids1 a s0/\vsz (allC (headKey [] (c :: L)) i x kids1)<=vsz (headKey [] (c :: L))+51*(kids1.length-1)/\∀ (f:List Item->Nat) (g:List Child->Nat) l,l<=k->measL f g M2 k R l+meas f g M k y.page l=meas f g M (k+1) id l+measL f g M2 k kids1 l:=by
     intro M2 kids1 new hu
     obtain ⟨v1,v2,idk,v3,v4,v5⟩:=u2 M2 kids1 new hu
     have a1:=seg_same s1 v1
     have a3:=seg_same s5 v1
     -- the whole row
     have hseg0:Seg (Sub M2 1 k) (A++(headKey y.key kids1++B)) hi (p1++(F p2++p3)) (j1++(idk++j3)):=by
      refine Seg.append.2 ⟨p1,_,j1,_,rfl,rfl,?_,Seg.append.2 ⟨_,p3,_,j3,rfl,rfl,v3,a3⟩⟩
      cases hkk:kids1 with
      | nil =>
       simp only [headKey,List.nil_append]
       exact a1.widen λ z hz=>⟨y.key,rfl,hgap z hz⟩
      | cons a b=>exact a1
     have hfirst:∀ c' L2,A++(headKey y.key kids1++B)=c' :: L2->lessB c'.key lo=false:=by
      intro c' L2 hcl
      by_cases hAe:A=[]
      ·rw [hAe,List.nil_append] at hcl
       cases hkk:kids1 with
       | nil =>
        rw [hkk] at hcl
        simp only [headKey,List.nil_append] at hcl
        have:=hgap c'.key (by rw [hcl];rfl)
        rw [hylo2 hAe] at this
        exact this
       | cons a b =>
        rw [hkk] at hcl
        simp only [headKey,List.cons_append,List.cons.injEq] at hcl
        rw [<- hcl.1]
        show lessB y.key lo=false
        rw [hylo2 hAe,lessB_irrefl]
      ·obtain ⟨a,A',hAA⟩:=List.exists_cons_of_ne_nil hAe
       rw [hAA] at hcl hF
       simp only [List.cons_append,List.cons.injEq] at hcl hF
       rw [<- hcl.1,<- hF.1,h5,lessB_irrefl]
     have hseg:=hseg0.low hfirst
     have hall:allC (headKey [] (c :: L)) i x kids1=headKey [] (headKey lo (A++(headKey y.key kids1++B))):=by
      rw [headKey_twice]
      unfold allC
      rw [hdr]
      by_cases h0:i=0
      ·subst h0
       have hAe:A=[]:=by rw [<- hA];rfl
       subst hAe
       simp only [List.take_zero,List.nil_append]
       cases hkk:kids1 with
       | nil=>simp only [headKey,List.nil_append]
       | cons a b=>rfl
      ·obtain ⟨j,rfl⟩:∃ j,i=j+1:=⟨i-1,by omega⟩
       rw [hxy.2.1 h0]
       have e1:(headKey [] (c :: L)).take (j+1)=headKey [] A:=by rw [<- hA];rfl
       have hAne:A≠[]:=by rw [<- hA];simp
       rw [e1,List.append_assoc,headKey_app _ (headKey_ne hAne),headKey_twice,<- headKey_app _ hAne]
     have hxk:x.key.length<=40:=(Child.fit_iff.1 (rightC_fit h2 x (List.mem_of_getElem? g4))).2.2
     have hfit:∀ z∈headKey [] (headKey lo (A++(headKey y.key kids1++B))),z.fit=true:=by
      rw [<- hall]
      refine headKey_fit λ z hz=>?_
      rcases List.mem_append.1 hz with hz | hz
      ·rcases List.mem_append.1 hz with hz | hz
       ·exact rightC_fit h2 z (List.mem_of_mem_take hz)
       ·exact headKey_fit' hxk v2.fit z hz
      ·exact rightC_fit h2 z (List.mem_of_mem_drop hz)
     have hlen:(layC (headKey [] (headKey lo (A++(headKey y.key kids1++B))))).length<=400:=by
      rw [<- hall]
      refine Nat.le_trans (headKey_lay' _) ?_
      rw [layC_append,layC_append,List.length_append,List.length_append]
      have q1:=layC_le (headKey [] (c :: L)) (i+1)
      have hil':i<(headKey [] (c :: L)).length:=by simpa [headKey] using hil
      rw [layC_take hil',List.length_append] at q1
      have q2:=layC_drop (headKey [] (c :: L)) (i+1)
      rw [layC_take hil',List.length_append] at q2
      have q3:=layC_le51 (L:=headKey x.key kids1) λ z hz=>(Child.lay_fit (headKey_fit' hxk v2.fit z hz)).1
      rw [headKey_len] at q3
      have q4:=v2.two
      omega
     refine ⟨v2,v1,_,_,hall,λ c' L2 hR=>?_,hseg,λ hne=>FitP.of (hseg.right hne hfit) hlen,?_,v5,?_,?_⟩
     ·cases hq:A++(headKey y.key kids1++B) with
      | nil=>rw [hq] at hR;simp [headKey] at hR
      | cons a b =>
       rw [hq] at hR
       simp only [headKey,List.cons.injEq] at hR
       rw [<- hR.1]
     ·rw [List.perm_iff_count] at v4 ⊢
      intro a
      have:=v4 a
      simp only [List.count_append] at this ⊢
      omega
     ·exact allC_vsz g4 (rightC_fit h2) v2.fit
     ·intro f g l hl
      rw [(meas_up (f:=f) (g:=g) (k:=k) h1 h2 h3).2 l hl,measL_head,measL_head,measL_app,measL_app,measL_head,hF,measL_app,seg_meas s1 (v1.sameOn (seg_there s1)),seg_meas s5 (v1.sameOn (seg_there s5))]
      show _=measL f g M k A l+(meas f g M k y.page l+measL f g M k B l)+_
      omega
    refine ⟨?_,?_,?_⟩
    ·intro pre s post M2 kids1 new hG hu
     rw [List.reverse_cons] at hG
     rcases List.eq_nil_or_concat post with rfl | ⟨post',e',rfl⟩
     ·obtain ⟨e1,e2⟩:=List.append_inj' hG rfl
      subst e1
      simp only [List.cons.injEq,and_true] at e2
      subst e2
      intro c0 hc0
      dsimp only at hc0 ⊢
      rw [g4] at hc0
      cases hc0
      obtain ⟨w1,w2,R,idf,w3,w4,w5,w6,w8,_,_,_⟩:=here M2 kids1 new hu
      refine ⟨w1,λ hne=>?_⟩
      rw [w3] at hne ⊢
      exact w6 λ e=>hne (by rw [e];rfl)
     ·rw [List.concat_eq_append,<- List.cons_append,<- List.append_assoc] at hG
      obtain ⟨e1,e2⟩:=List.append_inj' hG rfl
      exact u1 pre s post' M2 kids1 new e1 hu
    ·intro M2 kids2 new hu
     rw [List.reverse_cons] at hu
     obtain ⟨M1',kids1,new1,new2,c0,w1,w2,w3,rfl⟩:=hu.last
     rw [g4] at w2
     cases w2
     obtain ⟨z1,z2,R,idf,z3,z4,z5,z6,z8,⟨s,b1,b2,b3,b4,b5⟩,z10,z11⟩:=here M1' kids1 new1 w1
     rw [z3] at w3 z10
     rw [hins]
     have htop:=λ (f:List Item->Nat) (g:List Child->Nat)=>(meas_up (f:=f) (g:=g) (k:=k) h1 h2 h3).1
     rcases w3 with ⟨e1,rfl,rfl,rfl⟩ | ⟨e1,w3⟩
     ·have hR:R=[]:=by
       cases R with
       | nil=>rfl
       | cons a b=>simp [headKey] at e1
      subst hR
      obtain ⟨hp0,rfl⟩:=z5
      refine ⟨by simpa using z2,⟨by simp,λ x hx=>by cases hx⟩,[],?_,?_,?_⟩
      ·rw [hp0];exact ⟨rfl,rfl⟩
      ·rw [h7,List.reverse_cons,List.map_append]
       rw [List.perm_iff_count] at z8 ⊢
       intro a
       have q2:=z8 a
       simp only [List.count_append,List.count_cons,List.count_nil,List.map_cons,List.map_nil] at q2 ⊢
       omega
      ·have e0:∀ (f:List Item->Nat) (g:List Child->Nat) (S:Store) j l,measL f g S j [] l=0:=λ _ _ _ _ _=>rfl
       refine ⟨λ l=>if l=k+1 then 0 else s l,by simp [b1],by simp,?_,λ l hl=>?_,λ l hl=>?_⟩
       ·have:=z11 potI potB 0 (by omega)
        rw [e0] at this ⊢
        omega
       ·rw [e0]
        dsimp only
        by_cases hlk:l=k
        ·subst hlk;simp
        ·rw [if_neg (by omega),if_neg (by omega)]
         have q1:=z11 potI potB (l+1) (by omega)
         have q2:=b4 l (by omega)
         rw [e0] at q1
         omega
       ·rw [e0];omega
     ·obtain ⟨c',L2,hR⟩:∃ c' L2,R=c' :: L2:=by
       cases R with
       | nil=>exact absurd rfl e1
       | cons a b=>exact ⟨a,b,rfl⟩
      subst hR
      obtain ⟨y1,y2,idk,y3,y4⟩:=Laid.tree (by omega) (z4 _ _ rfl) z5 (by omega) (z6 (by simp)) w3
      obtain ⟨σ,m0,m1,m2,m3,m4⟩:=laid_meas rfl e1 z5 (z6 (by simp)) w3
      refine ⟨by rw [<- List.append_assoc];exact z2.trans y1,y2.g,idk,y3,?_,λ l=>if l=k+1 then σ else s l,by simp [b1],by simp [m1],?_,λ l hl=>?_,λ l hl=>?_⟩
      ·rw [h7,List.reverse_cons,List.map_append]
       rw [List.perm_iff_count] at y4 z8 ⊢
       intro a
       have q1:=y4 a
       have q2:=z8 a
       simp only [List.count_append,List.count_cons,List.count_nil,List.map_cons,List.map_nil] at q1 q2 ⊢
       omega
      ·have q1:=z11 potI potB 0 (by omega)
       rw [m4 _ _ 0 (by omega)]
       omega
      ·dsimp only
       by_cases hlk:l=k
       ·subst hlk
        rw [if_pos rfl,if_neg (by omega),htop]
        have e2:potB (headKey [] (c' :: L2))<=potB (headKey [] (c :: L))+51*s l:=by
         unfold potB
         have:kids1.length-1<=s l:=by omega
         have:=Nat.mul_le_mul_left 51 this
         omega
        omega
       ·rw [if_neg (by omega),if_neg (by omega),m4 _ _ (l+1) (by omega)]
        have q1:=z11 potI potB (l+1) (by omega)
        have q2:=b4 l (by omega)
        omega
      ·dsimp only
       by_cases hlk:l=k+1
       ·subst hlk
        rw [if_pos rfl,htop,m3]
        omega
       ·rw [if_neg hlk,m4 _ _ l (by omega)]
        have q1:=z11 (λ _=>1) (λ _=>1) l (by omega)
        have q2:=b5 l (by omega)
        omega
    ·intro pre s M2 kids1 new c0 hG hu hc0
     rw [List.reverse_cons] at hG
     obtain ⟨e1,e2⟩:=List.append_inj' hG rfl
     subst e1
     simp only [List.cons.injEq,and_true] at e2
     subst e2
     dsimp only at hc0 ⊢
     rw [g4] at hc0
     cases hc0
     obtain ⟨z1,z2,R,idf,z3,z4,z5,z6,z8,⟨s,b1,b2,b3,b4,b5⟩,z10,z11⟩:=here M2 kids1 new hu
     refine ⟨rfl,z2,k,R,idf,rfl,z3,z4,by rw [hins];exact z5,?_,s,b1,?_,λ l hl=>?_,λ l hl=>?_⟩
     ·rw [h7]
      rw [List.perm_iff_count] at z8 ⊢
      intro a
      have q2:=z8 a
      simp only [List.count_append,List.count_cons,List.count_nil] at q2 ⊢
      omega
     ·have q1:=z11 potI potB 0 (by omega)
      omega
     ·have q1:=z11 potI potB (l+1) (by omega)
      have q2:=b4 l (by omega)
      omega
     ·have q1:=z11 (λ _=>1) (λ _=>1) l (by omega)
      have q2:=b5 l (by omega)
      omega
theorem delP_before {key:List UInt8} (a b:List Pair) (h:∀ q∈a,lessB q.1 key=true):delP key (a++b)=a++delP key b:=delP_pre λ q hq=>lessB_ne (h q hq)
theorem delP_behind {key:List UInt8} (a b:List Pair) (h:∀ q∈b,lessB key q.1=true):delP key (a++b)=delP key a++b:=delP_post λ q hq=>(lessB_ne (h q hq)).symm
theorem delI_cons (y:Item) (l:List Item) (k:Bytes):delI (y :: l) k=if lessB y.key k then y :: delI l k else if y.key=k then l else y :: l:=by
 cases h1:lessB y.key k with
 | true =>
  cases h2:isAt k l with
  | true=>simp [delI,isAt,ahead,h1,h2]
  | false=>simp [delI,isAt,h1,h2]
 | false =>
  by_cases h2:y.key=k
  ·simp [delI,isAt,ahead,h1,h2]
   rw [<- h2]
   simp [lessB_irrefl]
  ·simp [delI,isAt,h1,h2]
theorem layI_del (k:Bytes):∀ l:List Item,(layI (delI l k)).length<=(layI l).length
 | []=>by simp [delI,isAt,layI]
 | y :: l=>by
  have:=layI_del k l
  rw [delI_cons]
  split
  ·simp only [layI,List.length_append];omega
  ·split
   ·simp only [layI,List.length_append];omega
   ·exact Nat.le_refl _
theorem leaf_del {M:Store} {key:Bytes}:∀ {items:List Item} {ps:List Pair} {i2:List Int},riseI items=true->LeafAt M items ps i2->∃ old,OldAt M items key ps old/\∃ i2',LeafAt M (delI items key) (delP key ps) i2'/\(i2'++old).Perm i2
 | [],ps,i2,hr,h=>by
  obtain ⟨rfl,rfl⟩:=h
  exact ⟨[],.inl ⟨rfl,rfl⟩,[],⟨rfl,rfl⟩,by simp⟩
 | y :: l,ps,i2,hr,h=>by
  obtain ⟨v1,ps',j1,j2,rfl,rfl,h3,h4⟩:=h
  have hr1:=(riseI_tail hr).1
  have hr2:=(riseI_tail hr).2
  have hps:∀ q∈ps',lessB y.key q.1=true:=by
   intro q hq
   have hm:=(leaf_rising h4 hr1).2
   have:q.1∈ps'.map (·.1):=List.mem_map_of_mem hq
   rw [hm] at this
   obtain ⟨it,hit,e⟩:=List.mem_map.1 this
   rw [<- e]
   exact hr2 it hit
  simp only [OldAt,isAt,ahead]
  by_cases hlt:lessB y.key key=true
  ·obtain ⟨old,q1,i2',q3,q4⟩:=leaf_del (key:=key) hr1 h4
   refine ⟨old,?_,j1++i2',?_,?_⟩
   ·simp only [hlt,if_true]
    rcases q1 with q1 | ⟨it,v',k1,k2,k3,k4⟩
    ·exact .inl q1
    ·exact .inr ⟨it,v',k1,by simpa using k2,k3,List.mem_cons_of_mem _ k4⟩
   ·rw [delI_cons,if_pos hlt]
    have:delP key ((y.key,v1) :: ps')=(y.key,v1) :: delP key ps':=by
     have:=delP_before (key:=key) [(y.key,v1)] ps' (λ q hq=>by rw [List.mem_singleton.1 hq];exact hlt)
     exact this
    rw [this]
    exact ⟨v1,_,j1,i2',rfl,rfl,h3,q3⟩
   ·rw [List.perm_iff_count] at q4 ⊢
    intro a
    have:=q4 a
    simp only [List.count_append] at this ⊢
    omega
  ·by_cases he:y.key=key
   ·refine ⟨j1,?_,j2,?_,?_⟩
    ·refine .inr ⟨y,v1,?_,?_,h3,?_⟩
     ·rw [if_neg hlt];simpa using he
     ·rw [if_neg hlt];rfl
     ·rw [<- he];exact List.mem_cons_self ..
    ·rw [delI_cons,if_neg hlt,if_pos he]
     have:delP key ((y.key,v1) :: ps')=ps':=by
      have h1:=delP_behind (key:=key) [(y.key,v1)] ps' (λ q hq=>by rw [<- he];exact hps q hq)
      have h2:delP key [(y.key,v1)]=[]:=by simp [delP,he]
      rw [h2] at h1
      exact h1
     rw [this]
     exact h4
    ·rw [List.perm_iff_count]
     intro a
     simp only [List.count_append]
     omega
   ·have hgt:lessB key y.key=true:=by
     rcases lessB_total y.key key with h | h | h
     ·exact absurd h hlt
     ·exact absurd h he
     ·exact h
    refine ⟨[],.inl ⟨by rw [if_neg hlt];simpa using he,rfl⟩,j1++j2,?_,by simp⟩
    rw [delI_cons,if_neg hlt,if_neg he]
    have:delP key ((y.key,v1) :: ps')=(y.key,v1) :: ps':=delP_out λ q hq=>by
     rcases List.mem_cons.1 hq with rfl | hq
     ·exact he
     ·exact (lessB_ne (lessB_trans hgt (hps q hq))).symm
    rw [this]
    exact ⟨v1,_,j1,j2,rfl,rfl,h3,h4⟩
theorem isAt_get {M:Store} {key:Bytes}:∀ {items:List Item} {ps:List Pair} {i2:List Int},riseI items=true->LeafAt M items ps i2->isAt key items=(getP key ps).isSome
 | [],ps,i2,hr,h=>by
  obtain ⟨rfl,rfl⟩:=h
  rfl
 | y :: l,ps,i2,hr,h=>by
  obtain ⟨v1,ps',j1,j2,rfl,rfl,h3,h4⟩:=h
  have hr1:=(riseI_tail hr).1
  have hr2:=(riseI_tail hr).2
  have hps:∀ q∈ps',lessB y.key q.1=true:=by
   intro q hq
   have hm:=(leaf_rising h4 hr1).2
   have:q.1∈ps'.map (·.1):=List.mem_map_of_mem hq
   rw [hm] at this
   obtain ⟨it,hit,e⟩:=List.mem_map.1 this
   rw [<- e]
   exact hr2 it hit
  simp only [isAt,getP]
  cases h1:lessB y.key key with
  | true =>
   rw [if_pos rfl,if_neg (lessB_ne h1)]
   exact isAt_get hr1 h4
  | false =>
   rw [if_neg (by decide)]
   by_cases h2:y.key=key
   ·simp [h2]
   ·rw [if_neg h2,getP_none λ p hp e=>by
     have:=hps p hp
     rw [e,h1] at this
     cases this]
    simp [h2]
inductive Shrink (M:Store):Int->Int->List Int->Prop
 | leaf {id:Int} {items:List Item}:M id=some ⟨2,0,layI items⟩->riseI items=true->(layI items).length<=240->items≠[]->Shrink M id id []
 | wide {id:Int} {L:List Child}:M id=some ⟨3,0,layC L⟩->rightC L=true->(layC L).length<=240->2<=L.length->Shrink M id id []
 | one {id root:Int} {x:Child} {drp:List Int}:M id=some ⟨3,0,layC [x]⟩->rightC [x]=true->(layC [x]).length<=240->Shrink M x.page root drp->Shrink M id root (id :: drp)
theorem Shrink.det {M:Store} {id r1 r2:Int} {d1 d2:List Int} (h:Shrink M id r1 d1) (k:Shrink M id r2 d2):r1=r2/\d1=d2:=by
 induction h generalizing r2 d2 with
 | leaf h1 h2 h3 h4 =>
  cases k with
  | leaf=>exact ⟨rfl,rfl⟩
  | wide g1=>rw [h1] at g1;simp at g1
  | one g1=>rw [h1] at g1;simp at g1
 | wide h1 h2 h3 h4 =>
  cases k with
  | leaf g1=>rw [h1] at g1;simp at g1
  | wide=>exact ⟨rfl,rfl⟩
  | one g1 g2 g3 =>
   rw [h1] at g1
   simp only [Option.some.injEq,Pg.mk.injEq,true_and] at g1
   have:=layC_inj h2 g2 h3 g1
   subst this
   simp at h4
 | one h1 h2 h3 _ ih =>
  cases k with
  | leaf g1=>rw [h1] at g1;simp at g1
  | wide g1 g2 g3 g4 =>
   rw [h1] at g1
   simp only [Option.some.injEq,Pg.mk.injEq,true_and] at g1
   have:=layC_inj h2 g2 h3 g1
   subst this
   simp at g4
  | one g1 g2 g3 g4 =>
   rw [h1] at g1
   simp only [Option.some.injEq,Pg.mk.injEq,true_and] at g1
   have:=layC_inj h2 g2 h3 g1
   simp only [List.cons.injEq,and_true] at this
   subst this
   obtain ⟨e1,e2⟩:=ih g4
   exact ⟨e1,by rw [e2]⟩
structure TopAt (M:Store) (k:Nat) (root:Int) (ps:List Pair) (ids:List Int):Prop where
 tree:TreeAt M 1 k root [] none ps ids
 wide:k=0\/2<=(kidsAt M root).length
theorem meas_above {f:List Item->Nat} {g:List Child->Nat} {M:Store}:∀ {k:Nat} {id:Int} {l:Nat},k<l->meas f g M k id l=0
 | 0,id,l,h=>by simp only [meas];rw [if_neg (by omega)]
 | k+1,id,l,h=>by
  simp only [meas]
  rw [if_neg (by omega)]
  have:∀ L:List Child,sumN (λ c=>meas f g M k c.page l) L=0:=by
   intro L
   induction L with
   | nil=>rfl
   | cons c L ih=>rw [sumN,ih,meas_above (show k<l by omega)]
  exact this _
theorem shrink_law {M:Store}:∀ {k:Nat} {id:Int} {lo:Bytes} {hi:Option Bytes} {ps:List Pair} {ids:List Int},TreeAt M 1 k id lo hi ps ids->ps≠[] →
  ∃ root drp k' ids',Shrink M id root drp/\k'<=k/\TreeAt M 1 k' root lo hi ps ids'/\ids=drp++ids'/\(k'=0\/2<=(kidsAt M root).length)/\(∀ (f:List Item->Nat) (g:List Child->Nat) l,l<=k'->meas f g M k' root l=meas f g M k id l)
 | 0,id,lo,hi,ps,ids,h,hne=>by
  have h':=h
  obtain ⟨items,i2,h1,h2,h3,h4,h5,h6⟩:=h
  exact ⟨id,[],0,ids,.leaf h1 h2 h3 (λ e=>hne (by subst e;exact h4.1)),Nat.le_refl _,h',rfl,.inl rfl,λ _ _ _ _=>rfl⟩
 | k+1,id,lo,hi,ps,ids,h,hne=>by
  have h':=h
  obtain ⟨c,L,i2,h1,h2,h3,h4,h5,h6,h7⟩:=h
  by_cases hL:L=[]
  ·subst hL
   obtain ⟨p1,p2,j1,j2,e1,e2,⟨g1,g2⟩,g3,g4⟩:=h6
   subst g3 g4
   rw [List.append_nil] at e1 e2
   subst e1 e2
   rw [h5] at g1
   obtain ⟨root,drp,k',ids',q1,q2,q3,q4,q5,q6⟩:=shrink_law g1 g2
   refine ⟨root,id :: drp,k',ids',.one (x:={ c with key:=[] }) h1 h2 h3 q1,by omega,q3,by rw [h7,q4];rfl,q5,λ f g l hl=>?_⟩
   rw [q6 f g l hl,(meas_up (f:=f) (g:=g) (k:=k) h1 h2 h3).2 l (by omega)]
   show _=meas f g M k c.page l+0
   omega
  ·have hlen:2<=(headKey [] (c :: L)).length:=by
    have:=List.length_pos_iff.2 hL
    simp [headKey]
    omega
   exact ⟨id,[],k+1,ids,.wide h1 h2 h3 hlen,Nat.le_refl _,h',rfl,.inr (by rw [kidsAt_of h1 h2 h3];exact hlen),λ _ _ _ _=>rfl⟩
def FinG (M:Store) (kids:List Child) (root:Int) (M':Store) (new:List Int):Prop:=
  (kids=[]/\M root=none/\2<=root/\root<=100000/\M'=updS M root (some ⟨2,0,[]⟩)/\new=[root])\/(∃ c,kids=[c]/\root=c.page/\M'=M/\new=[])\/∃ c1 c2,kids=[c1,c2]/\Laid M c1.key (headKey [] kids) [⟨c1.key,root⟩] M' new
def EndG (M1:Store) (kids0:List Child) (G:List (Int × Nat × List Child)) (root:Int) (M':Store) (new drp:List Int):Prop:=
  (G=[]/\drp=[]/\FinG M1 kids0 root M' new) ∨
  ∃ pre s M2 kids1 new1 c,G=pre++[s]/\UpsG M1 kids0 pre M2 kids1 new1/\s.2.2[s.2.1]? = some c ∧
    ((∃ x,allC s.2.2 s.2.1 c kids1=[x]/\Shrink M2 x.page root drp/\M'=M2/\new=new1) ∨
     (∃ M3 kids2 new2 new3,(allC s.2.2 s.2.1 c kids1).length≠1/\LaidG M2 (allC s.2.2 s.2.1 c kids1) kids2 M3 new2/\FinG M3 kids2 root M' new3/\new=new1++new2++new3/\drp=[]))
theorem fin_law {M M':Store} {j:Nat} {kids:List Child} {root:Int} {new3:List Int} {Q:List Pair} {idk:List Int} (hs:Seg (Sub M 1 j) (headKey [] kids) none Q idk) (hk:KidsG kids) (hone:∀ c,kids=[c]->j=0\/2<=(kidsAt M c.page).length) (h:FinG M kids root M' new3) :
    Grow M M' new3/\∃ k' ids',TopAt M' k' root Q ids'/\ids'.Perm (idk++new3)/\(k'<=j\/(kids.length=2/\k'=j+1)) ∧
      ∀ l,(l<=j->meas potI potB M' k' root l<=measL potI potB M j kids l/\meas (λ _=>1) (λ _=>1) M' k' root l<=max 1 (measL (λ _=>1) (λ _=>1) M j kids l))/\(j<l->meas potI potB M' k' root l=0/\meas (λ _=>1) (λ _=>1) M' k' root l<=1):=by
  rcases h with ⟨rfl,h1,h2,h3,rfl,rfl⟩ | ⟨c,rfl,rfl,rfl,rfl⟩ | ⟨c1,c2,rfl,h⟩
  · obtain ⟨rfl,rfl⟩:=hs
    have hr:updS M root (some ⟨2,0,[]⟩) root=some ⟨2,0,layI []⟩:=by unfold updS;simp [layI]
    have hit:=itemsAt_of (l:=[]) hr (by rfl) (by simp [layI])
    refine ⟨Grow.one h1,0,[root],⟨⟨[],[],hr,rfl,by simp [layI],⟨rfl,rfl⟩,rfl,λ q hq=>by cases hq⟩,.inl rfl⟩,by simp,.inl (by omega),λ l=>⟨λ hl=>?_,λ hl=>?_⟩⟩
    · by_cases h0:l=0
      · subst h0
        simp only [meas,if_true,hit]
        have e0:potI []=0:=rfl
        rw [e0]
        exact ⟨Nat.zero_le _,by omega⟩
      · rw [meas_above (by omega),meas_above (by omega)]
        exact ⟨Nat.zero_le _,Nat.zero_le _⟩
    · rw [meas_above (by omega),meas_above (by omega)]
      exact ⟨rfl,Nat.zero_le _⟩
  · obtain ⟨p1,p2,i1,i2,rfl,rfl,⟨g1,g2⟩,rfl,rfl⟩:=hs
    refine ⟨Grow.refl _,j,i1,⟨by rw [List.append_nil];exact g1,hone c rfl⟩,by simp,.inl (Nat.le_refl _),λ l=>⟨λ hl=>?_,λ hl=>?_⟩⟩
    · exact ⟨Nat.le_refl _,by show meas _ _ _ _ _ _<=max 1 (meas _ _ _ _ _ _+0);omega⟩
    · rw [meas_above hl,meas_above hl]
      exact ⟨rfl,Nat.zero_le _⟩
  · have hf1:=hk.fit c1 (by simp)
    have hf2:=hk.fit c2 (by simp)
    have hs0:=hs
    obtain ⟨p1,pr,i1,ir,rfl,rfl,⟨g1,g2⟩,⟨p2,p3,i2,i3,rfl,rfl,⟨g3,g4⟩,rfl,rfl⟩⟩:=hs
    have hk2:c2.key≠[]:=by
      intro e
      obtain ⟨q,hq⟩:=List.exists_mem_of_ne_nil _ g2
      have:=(g1.inR q hq).2 c2.key rfl
      rw [e,lessB_nil] at this
      cases this
    have hfit:=two_fit hf1 hf2 hk2
    rcases h.rekey with ⟨i,h1,h2,h3,h4,h5,rfl,rfl⟩ | ⟨z,ra,y,rb,j1,j2,h1,h2,h3,h4,h5,h6,h7,h8,h9,_⟩
    · simp only [headKey,List.cons.injEq,Child.mk.injEq,true_and,and_true] at h5
      subst h5
      have hg:Grow M (updS M root (some ⟨3,0,layC (headKey [] [c1,c2])⟩)) [root]:=Grow.one h2
      have hr:updS M root (some ⟨3,0,layC (headKey [] [c1,c2])⟩) root=some ⟨3,0,layC (headKey [] [c1,c2])⟩:=by unfold updS;simp
      have hm:∀ (f:List Item->Nat) (g:List Child->Nat),_:=λ f g=>meas_up (f:=f) (g:=g) (k:=j) hr hfit.right h1
      refine ⟨hg,j+1,root :: (i1++(i2++[])),⟨⟨{ c1 with key:=[] },[c2],_,hr,hfit.right,h1,by simp,rfl,seg_same hs0 hg,rfl⟩,.inr (by rw [kidsAt_of hr hfit.right h1];simp [headKey])⟩,?_,.inr ⟨rfl,rfl⟩,λ l=>⟨λ hl=>?_,λ hl=>?_⟩⟩
      · rw [List.perm_iff_count]
        intro a
        simp only [List.count_append,List.count_cons,List.count_nil]
        omega
      · rw [(hm _ _).2 l hl,(hm _ _).2 l hl,measL_head,measL_head]
        have e:∀ (f:List Item->Nat) (g:List Child->Nat),measL f g (updS M root (some ⟨3,0,layC (headKey [] [c1,c2])⟩)) j [c1,c2] l=measL f g M j [c1,c2] l:=λ f g=>by
          have:=seg_meas (f:=f) (g:=g) hs0 (hg.sameOn (seg_there hs0)) l
          rw [measL_head,measL_head] at this
          exact this
        rw [e,e]
        exact ⟨Nat.le_refl _,by omega⟩
      · by_cases hlj:l=j+1
        · subst hlj
          rw [(hm _ _).1,(hm _ _).1]
          refine ⟨?_,Nat.le_refl _⟩
          have h51:=(vlen_le hf2).1
          have h51':=(vlen_le hf1).1
          have hle:=vsz_head_le (L:=[c1,c2]) hk.fit
          simp only [vsz] at hle
          unfold potB
          omega
        · rw [meas_above (by omega),meas_above (by omega)]
          exact ⟨rfl,Nat.zero_le _⟩
    · simp [headKey] at h9
structure Hist (M:Store) (k:Nat) (root:Int) (S:Nat->Nat) (n:Nat):Prop where
  pot0:meas potI potB M k root 0+68*S 0<=104*n
  potl:∀ l,meas potI potB M k root (l+1)+94*S (l+1)<=51*S l
  cnt:∀ l,meas (λ _=>1) (λ _=>1) M k root l<=1+S l
  top:∀ l,l<k->1<=S l
theorem Hist.new {M:Store} {root:Int} (h:M root=some ⟨2,0,[]⟩):Hist M 0 root (λ _=>0) 0:=by
  have hit:itemsAt M root=[]:=itemsAt_of (M:=M) (id:=root) (l:=[]) h rfl (by simp [layI])
  refine ⟨?_,λ l=>?_,λ l=>?_,λ l hl=>absurd hl (Nat.not_lt_zero _)⟩
  · simp only [meas,if_true,hit]
    have e0:potI []=0:=rfl
    rw [e0]
    omega
  · rw [meas_above (by omega)];omega
  · by_cases h0:l=0
    · subst h0;simp [meas]
    · rw [meas_above (by omega)];omega
def EndFitG (M1:Store) (kids0:List Child) (G:List (Int × Nat × List Child)):Prop:=∀ M2 kids1 new,UpsG M1 kids0 G M2 kids1 new->KidsG kids1/\(2<=kids1.length->FitP (headKey [] kids1))
def ShrFit (k:Nat) (M1:Store) (kids0:List Child) (G:List (Int × Nat × List Child)):Prop:=
  ∀ pre s M2 kids1 new c y,G=pre++[s]->UpsG M1 kids0 pre M2 kids1 new->s.2.2[s.2.1]? = some c->allC s.2.2 s.2.1 c kids1=[y]->∃ root drp,Shrink M2 y.page root drp/\drp.length<=k
def FitsG (k:Nat) (M1:Store) (kids0:List Child) (G:List (Int × Nat × List Child)):Prop:=AllFitG M1 kids0 G/\EndFitG M1 kids0 G/\ShrFit k M1 kids0 G
theorem Shrink.len {M:Store} {id root:Int} {drp:List Int} (h:Shrink M id root drp):∀ {k:Nat} {lo:Bytes} {hi:Option Bytes} {ps:List Pair} {ids:List Int},TreeAt M 1 k id lo hi ps ids->drp.length<=k:=by
  induction h with
  | leaf=>intros;simp
  | wide=>intros;simp
  | one h1 h2 h3 _ ih =>
    intro k lo hi ps ids ht
    cases k with
    | zero=>obtain ⟨items,i2,g1,_⟩:=ht;rw [h1] at g1;simp at g1
    | succ k =>
      obtain ⟨c,L,i2,g1,g2,g3,g4,g5,⟨p1,p2,i1,i3,e1,e2,⟨e3,_⟩,_⟩,g7⟩:=ht
      rw [h1] at g1
      simp only [Option.some.injEq,Pg.mk.injEq,true_and] at g1
      have:=layC_inj h2 g2 h3 g1
      simp only [headKey,List.cons.injEq] at this
      have hx:=this.1
      rw [hx] at ih
      have:=ih e3
      simp only [List.length_cons]
      omega
theorem root_law {M:Store} {key:Bytes} {lid:Int} {items:List Item} {F:List Pair->List Pair} (hF0:TurnAt key F) {k:Nat} {root0:Int} {P:List (Int × Nat × List Child)} {ps:List Pair} {ids:List Int} {S:Nat->Nat} {n:Nat}
    (ht:TopAt M k root0 ps ids) (hh:Hist M k root0 S n) (hw:Trail M key root0 P lid items) :
    ∃ lo' hi' ps' ids',TreeAt M 1 0 lid lo' hi' ps' ids'/\inR lo' hi' key/\(∀ x∈ids',x∈ids)/\(∀ q∈ps',q∈ps)/\(∀ x,getP key ps=some x↔getP key ps'=some x)/\∀ M1 kids0 new0 gone m s0,Grow M M1 new0->KidsG kids0->MeasG M M1 0 lid kids0 (104*m) s0 →
      (∃ idl,Seg (Sub M1 1 0) (headKey lo' kids0) hi' (F ps') idl/\(idl++gone).Perm (ids'++new0))->FitsG k M1 kids0 P.reverse/\∀ root M' new drp,EndG M1 kids0 P.reverse root M' new drp->Grow M M' (new0++new) ∧
        ∃ k' ids' S',TopAt M' k' root (F ps) ids'/\Hist M' k' root S' (n+m)/\(ids'++drp++gone++P.reverse.map (·.1)).Perm (ids++new0++new):=by
  obtain ⟨lo',hi',ps',ids',t1,t2,t3,t4,t4',t5,t6⟩:=ups_lawG hF0 ht.tree ⟨lessB_nil _,λ u hu=>by cases hu⟩ hw
  refine ⟨lo',hi',ps',ids',t1,t2,t4,t4',t5,λ M1 kids0 new0 gone m s0 hg hk hm hl=>?_⟩
  obtain ⟨u1,u2,u3⟩:=t6 M1 kids0 new0 gone (104*m) s0 hg hk hm hl
  have u4:EndFitG M1 kids0 P.reverse:=λ M2 kids1 new hu=>by
    obtain ⟨v1,v2,idk,v3,v4,v5⟩:=u2 M2 kids1 new hu
    refine ⟨v2,λ h2=>?_⟩
    obtain ⟨c1,c2,rfl⟩:∃ c1 c2,kids1=[c1,c2]:=by
      have h3:=v2.two
      cases kids1 with
      | nil=>simp at h2
      | cons c1 l =>
        cases l with
        | nil=>simp at h2
        | cons c2 l =>
          cases l with
          | nil=>exact ⟨c1,c2,rfl⟩
          | cons=>simp at h3
    obtain ⟨p1,pr,i1,ir,_,_,⟨g1,g2⟩,_⟩:=v3
    have hk2:c2.key≠[]:=by
      intro e
      obtain ⟨q,hq⟩:=List.exists_mem_of_ne_nil _ g2
      have:=(g1.inR q hq).2 c2.key rfl
      rw [e,lessB_nil] at this
      cases this
    exact two_fit (v2.fit c1 (by simp)) (v2.fit c2 (by simp)) hk2
  have u5:ShrFit k M1 kids0 P.reverse:=λ pre st M2 kids1 new c y hG h1 h2 e1=>by
    obtain ⟨r1,r2,j,R,idf,rfl,r4,r5,r6,_⟩:=u3 pre st M2 kids1 new c hG h1 h2
    rw [e1] at r4
    obtain ⟨r,hR⟩:∃ r,R=[r]:=by
      cases R with
      | nil=>simp [headKey] at r4
      | cons r L =>
        simp only [headKey,List.cons.injEq] at r4
        exact ⟨r,by rw [r4.2]⟩
    subst hR
    simp only [headKey,List.cons.injEq,and_true] at r4
    have hx:y.page=r.page:=by rw [r4]
    obtain ⟨p1,p2,i1,i2,g1,g2,⟨g3,g4⟩,g5,g6⟩:=r6
    obtain ⟨root',drp',k',ids'',q1,q2,_⟩:=shrink_law g3 g4
    exact ⟨root',drp',by rw [hx];exact q1,Nat.le_trans (q1.len g3) (Nat.le_succ _)⟩
  refine ⟨⟨u1,u4,u5⟩,λ root M' new drp he=>?_⟩
  -- what a finish leaves
  have hfin:∀ {M2:Store} {kids2:List Child} {new2 new3 idk:List Int} (_:Grow M M2 (new0++new2)) (_:KidsG kids2) (_:Seg (Sub M2 1 k) (headKey [] kids2) none (F ps) idk) (_:(idk++gone++P.reverse.map (λ z:Int × Nat × List Child=>z.1)).Perm (ids++new0++new2)) (_:MeasG M M2 k root0 kids2 (104*m) s0) (_:∀ c,kids2=[c]->k=0\/2<=(kidsAt M2 c.page).length) (_:FinG M2 kids2 root M' new3),
      Grow M M' (new0++(new2++new3))/\∃ k' ids' S',TopAt M' k' root (F ps) ids'/\Hist M' k' root S' (n+m)/\(ids'++[]++gone++P.reverse.map (λ z:Int × Nat × List Child=>z.1)).Perm (ids++new0++(new2++new3)):=by
    intro M2 kids2 new2 new3 idk v1 v2 v3 v4 v5 v6 v7
    obtain ⟨s,b1,b2,b3,b4,b5⟩:=v5
    obtain ⟨f1,k',ids',f2,f3,f4,f5⟩:=fin_law v3 v2 v6 v7
    refine ⟨by rw [<- List.append_assoc];exact v1.trans f1,k',ids',λ l=>S l+(if l<=k then s l else 0),f2,⟨?_,λ l=>?_,λ l=>?_,λ l hl=>?_⟩,?_⟩
    · have q1:=((f5 0).1 (Nat.zero_le _)).1
      have q2:=hh.pot0
      simp only [Nat.zero_le,if_true,b1]
      omega
    · have q2:=hh.potl l
      by_cases hlk:l+1<=k
      · have q1:=((f5 (l+1)).1 hlk).1
        have q3:=b4 l (by omega)
        rw [if_pos hlk,if_pos (by omega)]
        omega
      · have q1:=((f5 (l+1)).2 (by omega)).1
        rw [if_neg hlk,q1]
        omega
    · have q2:=hh.cnt l
      by_cases hlk:l<=k
      · have q1:=((f5 l).1 hlk).2
        have q3:=b5 l hlk
        rw [if_pos hlk]
        omega
      · have q1:=((f5 l).2 (by omega)).2
        omega
    · rcases f4 with f4 | ⟨f4,f6⟩
      · have:=hh.top l (by omega)
        omega
      · by_cases hlk:l<k
        · have:=hh.top l hlk
          omega
        · have:l=k:=by omega
          subst this
          rw [if_pos (Nat.le_refl _)]
          omega
    · rw [List.perm_iff_count] at v4 f3 ⊢
      intro a
      have q1:=v4 a
      have q2:=f3 a
      simp only [List.count_append,List.count_nil] at q1 q2 ⊢
      omega
  rcases he with ⟨hG,rfl,he⟩ | ⟨pre,st,M2,kids1,new1,c,hG,h1,h2,h3⟩
  · have hk0:k=0:=by
      cases hw with
      | leaf g1 =>
        cases k with
        | zero=>rfl
        | succ k=>obtain ⟨c,L,i2,g2,_⟩:=ht.tree;rw [g1] at g2;simp at g2
      | branch=>simp at hG
    obtain ⟨v1,v2,idk,v3,v4,v5⟩:=u2 M1 kids0 [] (by rw [hG];exact .nil)
    have:=hfin v1 v2 v3 v4 v5 (λ _ _=>.inl hk0) he
    simpa using this
  · rcases h3 with ⟨x,e1,e2,rfl,rfl⟩ | ⟨M3,kids2,new2,new3,e1,e2,e3,rfl,rfl⟩
    · obtain ⟨r1,r2,j,R,idf,rfl,r4,r5,r6,r7,s',r8,r9,r10,r11⟩:=u3 pre st M' kids1 new c hG h1 h2
      rw [e1] at r4
      obtain ⟨r,hR⟩:∃ r,R=[r]:=by
        cases R with
        | nil=>simp [headKey] at r4
        | cons r L =>
          simp only [headKey,List.cons.injEq] at r4
          exact ⟨r,by rw [r4.2]⟩
      subst hR
      simp only [headKey,List.cons.injEq,and_true] at r4
      have hx:x.page=r.page:=by rw [r4]
      have hrk:=r5 r [] rfl
      obtain ⟨p1,p2,i1,i2,g1,g2,⟨g3,g4⟩,g5,g6⟩:=r6
      subst g5 g6
      rw [List.append_nil] at g1 g2
      subst g2
      rw [<- g1,hrk] at g3
      obtain ⟨root',drp',k',ids'',q1,q2,q3,q4,q5,q6⟩:=shrink_law g3 (by rw [<- g1] at g4;exact g4)
      rw [hx] at e2
      obtain ⟨rfl,rfl⟩:=e2.det q1
      have e0:∀ (f:List Item->Nat) (g:List Child->Nat) l,measL f g M' j [r] l=meas f g M' j r.page l:=λ f g l=>by show meas f g M' j r.page l+0=_;omega
      refine ⟨r2,k',ids'',λ l=>S l+(if l<=j then s' l else 0),⟨q3,q5⟩,⟨?_,λ l=>?_,λ l=>?_,λ l hl=>?_⟩,?_⟩
      · have p1:=q6 potI potB 0 (Nat.zero_le _)
        have p2:=hh.pot0
        rw [e0] at r9
        simp only [Nat.zero_le,if_true,r8]
        omega
      · have p2:=hh.potl l
        by_cases hlk:l+1<=j
        · have p3:=r10 l (by omega)
          rw [e0] at p3
          rw [if_pos hlk,if_pos (by omega)]
          by_cases hlk':l+1<=k'
          · have p1:=q6 potI potB (l+1) hlk'
            omega
          · rw [meas_above (by omega)]
            omega
        · rw [if_neg hlk,meas_above (by omega)]
          omega
      · have p2:=hh.cnt l
        by_cases hlk:l<=k'
        · have p1:=q6 (λ _=>1) (λ _=>1) l hlk
          have p3:=r11 l (by omega)
          rw [e0] at p3
          rw [if_pos (by omega)]
          omega
        · rw [meas_above (by omega)]
          omega
      · have:=hh.top l (by omega)
        omega
      · rw [hG,List.map_append]
        rw [List.perm_iff_count] at r7 ⊢
        intro a
        have p1:=r7 a
        rw [q4] at p1
        simp only [List.count_append,List.map_cons,List.map_nil,r1] at p1 ⊢
        omega
    · obtain ⟨v1,v2,idk,v3,v4,v5⟩:=u2 M3 kids2 (new1++new2) (by rw [hG];obtain ⟨id,i,L⟩:=st;exact .snoc h1 h2 e2)
      refine hfin v1 v2 v3 v4 v5 (λ c' hc'=>.inr ?_) e3
      rcases e2 with ⟨_,e5,_⟩ | ⟨e4,e5⟩
      · rw [hc'] at e5;cases e5
      · have hlen:2<=(allC st.2.2 st.2.1 c kids1).length:=by
          have:=List.length_pos_iff.2 e4
          omega
        obtain ⟨w1,w2⟩:=u1 pre st [] M2 kids1 new1 hG h1 c h2
        have hf:=w2 e4
        rcases e5 with ⟨i,h5,h6,h7,h8,rfl,rfl,rfl⟩ | ⟨z,ra,y,rb,j1,j2,h5,h6,h7,h8,h9,h10,h11,h12,rfl,_⟩
        · simp only [List.cons.injEq,and_true] at hc'
          subst hc'
          rw [kidsAt_of (by unfold updS;simp) hf.right h5]
          exact hlen
        · simp at hc'
def Short (ps:List Pair):Prop:=∀ q∈ps,q.2.length<=2000
theorem chain_len {M:Store} {id:Int} {v:Bytes} {ids:List Int} (h:ChainAt M id v ids):240*ids.length<=v.length+239:=by
 induction h with
 | last h1 h2 h3=>simp;omega
 | more h1 h2 h3 _ ih=>simp only [List.length_cons,List.length_append];omega
theorem val_len {M:Store} {x:Item} {v:Bytes} {ids:List Int} (h:ValAt M x v ids) (hv:v.length<=2000):ids.length<=9:=by
 rcases h with ⟨_,_,rfl⟩ | ⟨_,h,_⟩
 ·simp
 ·have:=chain_len h;omega
theorem insP_short {k v:Bytes} {ps:List Pair} (h:Short ps) (hv:v.length<=2000):Short (insP k v ps):=λ q hq=>by
 rcases insP_mem hq with rfl | hq
 ·exact hv
 ·exact h q hq
def lsum (f:Nat->Nat):Nat->Nat
 | 0=>0
 | n+1=>lsum f n+f n
theorem lsum_add (f g:Nat->Nat):∀ n,lsum (λ l=>f l+g l) n=lsum f n+lsum g n
 | 0=>rfl
 | n+1=>by simp only [lsum,lsum_add f g n];omega
theorem lsum_congr {f g:Nat->Nat}:∀ {n:Nat},(∀ l,l<n->f l=g l)->lsum f n=lsum g n
 | 0,_=>rfl
 | n+1,h=>by
  simp only [lsum]
  rw [lsum_congr λ l hl=>h l (by omega),h n (by omega)]
theorem lsum_le {f g:Nat->Nat}:∀ {n:Nat},(∀ l,l<n->f l<=g l)->lsum f n<=lsum g n
 | 0,_=>Nat.le_refl _
 | n+1,h=>by
  simp only [lsum]
  have:=lsum_le (n:=n) λ l hl=>h l (by omega)
  have:=h n (by omega)
  omega
def sumV:List Pair->Nat
 | []=>0
 | q :: ps=>q.2.length+sumV ps
theorem sumV_app:∀ a b:List Pair,sumV (a++b)=sumV a+sumV b
 | [],b=>by simp [sumV]
 | q :: a,b=>by simp only [List.cons_append,sumV,sumV_app a b];omega
theorem val_pages {M:Store} {x:Item} {v:Bytes} {ids:List Int} (h:ValAt M x v ids):240*ids.length<=v.length+239:=by
 rcases h with ⟨_,_,rfl⟩ | ⟨_,h,_⟩
 ·simp
 ·exact chain_len h
theorem leaf_pages {M:Store}:∀ {l:List Item} {ps:List Pair} {ids:List Int},LeafAt M l ps ids->240*ids.length<=sumV ps+239*ps.length
 | [],_,_,⟨h1,h2⟩=>by subst h1;subst h2;simp
 | x :: l,_,_,⟨v,ps',i1,i2,h1,h2,h3,h4⟩=>by
  subst h1;subst h2
  have q1:=val_pages h3
  have q2:=leaf_pages h4
  simp only [List.length_append,List.length_cons,sumV]
  omega
theorem seg_pages {M:Store} {d k:Nat} {hi:Option Bytes} (hT:∀ id lo hi ps ids,TreeAt M d k id lo hi ps ids->240*ids.length<=240*lsum (λ l=>meas (λ _=>1) (λ _=>1) M k id l) (k+1)+sumV ps+239*ps.length) :
  ∀ {L:List Child} {ps:List Pair} {ids:List Int},Seg (Sub M d k) L hi ps ids->240*ids.length<=240*lsum (λ l=>measL (λ _=>1) (λ _=>1) M k L l) (k+1)+sumV ps+239*ps.length
 | [],_,_,⟨h1,h2⟩=>by subst h1;subst h2;simp
 | c :: L,_,_,⟨p1,p2,i1,i2,h1,h2,h3,h4⟩=>by
  subst h1;subst h2
  have q1:=hT _ _ _ _ _ h3.1
  have q2:=seg_pages hT h4
  have e:lsum (λ l=>measL (λ _=>1) (λ _=>1) M k (c :: L) l) (k+1)=lsum (λ l=>meas (λ _=>1) (λ _=>1) M k c.page l) (k+1)+lsum (λ l=>measL (λ _=>1) (λ _=>1) M k L l) (k+1):=by
   rw [<- lsum_add]
   rfl
  rw [e,sumV_app,List.length_append,List.length_append]
  omega
theorem tree_pages {M:Store} {d:Nat}:∀ {k:Nat} {id:Int} {lo:Bytes} {hi:Option Bytes} {ps:List Pair} {ids:List Int},TreeAt M d k id lo hi ps ids->240*ids.length<=240*lsum (λ l=>meas (λ _=>1) (λ _=>1) M k id l) (k+1)+sumV ps+239*ps.length
 | 0,id,lo,hi,ps,ids,⟨items,i2,h1,h2,h3,h4,h5,h6⟩=>by
  have:=leaf_pages h4
  have e:lsum (λ l=>meas (λ _=>1) (λ _=>1) M 0 id l) (0+1)=1:=by simp [lsum,meas]
  rw [e,h5,List.length_cons]
  omega
 | k+1,id,lo,hi,ps,ids,⟨c,L,i2,h1,h2,h3,h4,h5,h6,h7⟩=>by
  have q1:=seg_pages (λ id lo hi ps ids h=>tree_pages h) h6
  have hm:=meas_up (f:=λ _=>1) (g:=λ _=>1) (k:=k) h1 h2 h3
  have e:lsum (λ l=>meas (λ _=>1) (λ _=>1) M (k+1) id l) (k+1+1)=lsum (λ l=>measL (λ _=>1) (λ _=>1) M k (c :: L) l) (k+1)+1:=by
   rw [lsum,hm.1]
   rw [lsum_congr (g:=λ l=>measL (λ _=>1) (λ _=>1) M k (c :: L) l) λ l hl=>by rw [hm.2 l (by omega),measL_head]]
  rw [e,h7,List.length_cons]
  omega
theorem trail_leaf {M:Store} {key:Bytes} {id lid:Int} {P:List (Int × Nat × List Child)} {items:List Item} (h:Trail M key id P lid items):M lid=some ⟨2,0,layI items⟩/\riseI items=true/\(layI items).length<=240:=by
 induction h with
 | leaf g1 g2 g3=>exact ⟨g1,g2,g3⟩
 | branch _ _ _ _ _ ih=>exact ih
theorem meas0 (f:List Item->Nat) (g:List Child->Nat) (M:Store) (id:Int):meas f g M 0 id 0=f (itemsAt M id):=by simp only [meas,if_true]
theorem laidI_meas {M M1:Store} {l:List Item} {kids:List Child} {new1:List Int} (hf:FitI l) (h:LaidI M l kids M1 new1):∃ s0,kids.length=1+s0/\measL potI potB M1 0 kids 0+68*s0<=potI l/\measL (λ _=>1) (λ _=>1) M1 0 kids 0=1+s0:=by
 rcases h with ⟨i,h1,h2,h3,h4,rfl,rfl,rfl⟩ | ⟨a,y,rb,i1,i2,h1,h2,h3,h4,h5,h6,h7,h8,rfl,rfl,rfl⟩
 ·refine ⟨0,rfl,?_,by rw [show ∀ S:Store,measL (λ _=>1) (λ _=>1) S 0 [⟨[],i⟩] 0=meas (λ _=>1) (λ _=>1) S 0 i 0+0 from λ _=>rfl,meas0]⟩
  have hi:updS M i (some ⟨2,0,layI l⟩) i=some ⟨2,0,layI l⟩:=by unfold updS;simp
  have e:measL potI potB (updS M i (some ⟨2,0,layI l⟩)) 0 [⟨[],i⟩] 0=meas potI potB (updS M i (some ⟨2,0,layI l⟩)) 0 i 0+0:=rfl
  rw [e,meas0,itemsAt_of hi hf.rise h1]
  omega
 ·obtain ⟨_,z',ra',y',rb',e0,r1,r2,r3,r4⟩:=hf.fit.resolve_left (by omega)
  rw [h2] at e0
  simp only [Prod.mk.injEq,List.cons.injEq] at e0
  obtain ⟨rfl,rfl,rfl⟩:=e0
  have happ:=splitI_app h2
  have hn12:i1≠i2:=by
   rintro rfl
   simp [updS] at h6
  have q1:updS (updS M i1 (some ⟨2,0,layI (z' :: ra')⟩)) i2 (some ⟨2,0,layI (y :: rb)⟩) i1=some ⟨2,0,layI (z' :: ra')⟩:=by
   unfold updS
   rw [if_neg hn12,if_pos rfl]
  have q2:updS (updS M i1 (some ⟨2,0,layI (z' :: ra')⟩)) i2 (some ⟨2,0,layI (y :: rb)⟩) i2=some ⟨2,0,layI (y :: rb)⟩:=by
   unfold updS
   rw [if_pos rfl]
  have hsp:=potI_split (riseI_right hf.rise) h1 (by rw [<- happ,List.length_append];simp;omega) h2
  refine ⟨1,rfl,?_,by rw [show ∀ S:Store,measL (λ _=>1) (λ _=>1) S 0 [⟨[],i1⟩,⟨y.key,i2⟩] 0=meas (λ _=>1) (λ _=>1) S 0 i1 0+(meas (λ _=>1) (λ _=>1) S 0 i2 0+0) from λ _=>rfl,meas0,meas0]⟩
  have e:∀ S:Store,measL potI potB S 0 [⟨[],i1⟩,⟨y.key,i2⟩] 0=meas potI potB S 0 i1 0+(meas potI potB S 0 i2 0+0):=λ _=>rfl
  rw [e,meas0,meas0,itemsAt_of q1 r1 r3,itemsAt_of q2 r2 r4]
  omega
theorem put_lawG {M:Store} {k n:Nat} {S:Nat->Nat} {key v:Bytes} {root0 lid:Int} {P:List (Int × Nat × List Child)} {ps:List Pair} {ids:List Int} {items:List Item} (ht:TopAt M k root0 ps ids) (hh:Hist M k root0 S n) (hw:Trail M key root0 P lid items) :
  riseI items=true/\(layI items).length<=240/\∃ ps' old,(∀ q∈ps',q∈ps)/\OldAt M items key ps' old/\∀ (Mc:Store) (x:Item) (newc:List Int),x.key=key->x.right=true->Grow M Mc newc->ValAt Mc x v newc →
   FitI (setI items x)/\∀ kids0 M1 new1,LaidI Mc (setI items x) kids0 M1 new1->FitsG k M1 kids0 P.reverse/\KidsFit kids0 ∧
    ∀ root M' new drp,EndG M1 kids0 P.reverse root M' new drp->Grow M M' (newc++new1++new)/\∃ k' ids' S',TopAt M' k' root (insP key v ps) ids'/\Hist M' k' root S' (n+1)/\(ids'++drp++(lid :: old)++P.reverse.map (·.1)).Perm (ids++(newc++new1)++new):=by
 obtain ⟨lo',hi',ps',ids',t1,t2,t4,t4',t5,t6⟩:=root_law (TurnAt.ins key v) ht hh hw
 obtain ⟨w1,w2,w3⟩:=trail_leaf hw
 obtain ⟨its,i2,h1,h2,h3,h4,h5,h6⟩:=t1
 have hit:its=items:=by
  rw [h1] at w1
  simp only [Option.some.injEq,Pg.mk.injEq,true_and] at w1
  exact layI_inj h2 w2 h3 w1
 subst hit
 obtain ⟨old,q1,q0⟩:=leaf_set (key:=key) h2 h4
 refine ⟨h2,h3,ps',old,t4',q1,λ Mc x newc hxk hxr hg hx=>?_⟩
 subst hxk
 obtain ⟨i2',q2,q3⟩:=q0 Mc x v newc rfl hg hx
 have hfit:=setI_fit h2 h3 hxr
 refine ⟨hfit,λ kids0 M1 new1 hl=>?_⟩
 have hsne:setI its x≠[]:=by
  unfold setI;simp
 have hR:∀ p∈insP x.key v ps',inR lo' hi' p.1:=λ p hp=>by
  rcases insP_mem hp with rfl | hp
  ·exact t2
  ·exact h6 p hp
 obtain ⟨g1,g2,idk,g3,g4⟩:=hl.tree (d:=1) q2 hsne hfit hR
 obtain ⟨s0,m1,m2,m3⟩:=laidI_meas hfit hl
 have hm:MeasG M M1 0 lid kids0 (104*1) s0:=by
  refine ⟨λ _=>s0,rfl,by show kids0.length<=1+s0;omega,?_,λ l hl=>absurd hl (Nat.not_lt_zero _),λ l hl=>?_⟩
  ·have e:meas potI potB M 0 lid 0=potI its:=by simp only [meas,if_true,itemsAt_of h1 h2 h3]
   rw [e]
   have a1:=layI_set x its
   have a2:=Item.lay_right hxr
   unfold potI at m2 ⊢
   omega
  ·have:l=0:=by omega
   subst this
   rw [m3]
   show 1+s0<=1+s0
   omega
 obtain ⟨u1,u2⟩:=t6 M1 kids0 (newc++new1) (lid :: old) 1 s0 (hg.trans g1) g2.g hm ⟨idk,g3,by
  rw [List.perm_iff_count] at q3 g4 ⊢
  intro a
  have e1:=q3 a
  have e2:=g4 a
  rw [h5]
  simp only [List.count_append,List.count_cons] at e1 e2 ⊢
  omega⟩
 exact ⟨u1,g2,u2⟩
theorem del_lawG {M:Store} {k n:Nat} {S:Nat->Nat} {key:Bytes} {root0 lid:Int} {P:List (Int × Nat × List Child)} {ps:List Pair} {ids:List Int} {items:List Item} (ht:TopAt M k root0 ps ids) (hh:Hist M k root0 S n) (hw:Trail M key root0 P lid items) :
  riseI items=true/\(layI items).length<=240/\∃ ps' old,(∀ q∈ps',q∈ps)/\OldAt M items key ps' old/\isAt key items=(getP key ps).isSome/\riseI (delI items key)=true/\(layI (delI items key)).length<=240 ∧
   ∀ kids0 M1 new1,((delI items key=[]/\kids0=[]/\M1=M/\new1=[])\/(delI items key≠[]/\LaidI M (delI items key) kids0 M1 new1))->FitsG k M1 kids0 P.reverse/\KidsG kids0 ∧
    ∀ root M' new drp,EndG M1 kids0 P.reverse root M' new drp->Grow M M' (new1++new)/\∃ k' ids' S',TopAt M' k' root (delP key ps) ids'/\Hist M' k' root S' n/\(ids'++drp++(lid :: old)++P.reverse.map (·.1)).Perm (ids++new1++new):=by
 obtain ⟨lo',hi',ps',ids',t1,t2,t4,t4',t5,t6⟩:=root_law (TurnAt.del key) ht hh hw
 obtain ⟨w1,w2,w3⟩:=trail_leaf hw
 obtain ⟨its,i2,h1,h2,h3,h4,h5,h6⟩:=t1
 have hit:its=items:=by
  rw [h1] at w1
  simp only [Option.some.injEq,Pg.mk.injEq,true_and] at w1
  exact layI_inj h2 w2 h3 w1
 subst hit
 obtain ⟨old,q1,i2',q2,q3⟩:=leaf_del (key:=key) h2 h4
 have hr:=delI_rise (k:=key) h2
 have hl240:(layI (delI its key)).length<=240:=Nat.le_trans (layI_del key its) h3
 have hia:isAt key its=(getP key ps).isSome:=by
  rw [isAt_get h2 h4]
  cases hq:getP key ps with
  | some x=>rw [(t5 x).1 hq]
  | none =>
   cases hq':getP key ps' with
   | some x=>rw [(t5 x).2 hq'] at hq;cases hq
   | none=>rfl
 refine ⟨h2,h3,ps',old,t4',q1,hia,hr,hl240,λ kids0 M1 new1 hl=>?_⟩
 have e:meas potI potB M 0 lid 0=potI its:=by simp only [meas,if_true,itemsAt_of h1 h2 h3]
 have key2:Grow M M1 new1/\KidsG kids0/\MeasG M M1 0 lid kids0 (104*0) 0/\∃ idl,Seg (Sub M1 1 0) (headKey lo' kids0) hi' (delP key ps') idl/\(idl++(lid :: old)).Perm (ids'++new1):=by
  rcases hl with ⟨d1,rfl,rfl,rfl⟩ | ⟨d1,hl⟩
  ·rw [d1] at q2
   obtain ⟨d2,rfl⟩:=q2
   refine ⟨Grow.refl _,⟨by simp,λ x hx=>by cases hx⟩,⟨λ _=>0,rfl,by simp,?_,λ l hl=>absurd hl (Nat.not_lt_zero _),λ l hl=>Nat.zero_le _⟩,[],?_,?_⟩
   ·show 0+68*0<=_;omega
   ·rw [d2];exact ⟨rfl,rfl⟩
   ·rw [List.perm_iff_count] at q3 ⊢
    intro a
    have e1:=q3 a
    rw [h5]
    simp only [List.count_append,List.count_cons,List.count_nil] at e1 ⊢
    omega
  ·have hfit:FitI (delI its key):=FitI.of hr (by omega)
   obtain ⟨g1,g2,idk,g3,g4⟩:=hl.tree (d:=1) q2 d1 hfit λ p hp=>h6 p (delP_mem hp)
   obtain ⟨s0,m1,m2,m3⟩:=laidI_meas hfit hl
   have hs0:s0=0:=by
    rcases hl with ⟨_,_,_,_,_,rfl,_,_⟩ | ⟨_,_,_,_,_,h,_⟩
    ·simp at m1;omega
    ·omega
   subst hs0
   refine ⟨g1,g2.g,⟨λ _=>0,rfl,by show kids0.length<=1+0;omega,?_,λ l hl=>absurd hl (Nat.not_lt_zero _),λ l hl=>?_⟩,idk,g3,?_⟩
   ·rw [e]
    have:=layI_del key its
    unfold potI at m2 ⊢
    omega
   ·have:l=0:=by omega
    subst this
    rw [m3]
    show 1+0<=1+0
    omega
   ·rw [List.perm_iff_count] at q3 g4 ⊢
    intro a
    have e1:=q3 a
    have e2:=g4 a
    rw [h5]
    simp only [List.count_append,List.count_cons] at e1 e2 ⊢
    omega
 obtain ⟨g1,g2,hm,hs⟩:=key2
 obtain ⟨u1,u2⟩:=t6 M1 kids0 new1 (lid :: old) 0 0 g1 g2 hm hs
 exact ⟨u1,g2,u2⟩
end Go.Ev
