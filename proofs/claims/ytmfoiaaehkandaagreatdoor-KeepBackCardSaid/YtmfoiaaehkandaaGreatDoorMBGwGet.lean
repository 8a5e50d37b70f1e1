/-
  Texts of this claim.
-/
import Derived.Test.YtmfoiaaehkandaaGreatDoorMBEvInsert
import Derived.Test.YtmfoiaaehkandaaGreatDoorMBGwPut
import Derived.Deep.LoopGhost
set_option linter.unusedVariables false
set_option linter.unusedSimpArgs false
namespace Go.Ev
open Go.Proofs Go.RowKit
def GetRel (b:Bytes) (w:World) (r:Nat) (g:Nat) (v:Value) (wr:World):Prop:=∃ (R:Rd) (acc:List Item),
 Rd.items ⟨b,0⟩=(acc++R.items.1,R.items.2)/\RdAt wr r R/\wr.ownsRow w.heap.size 223 4 v acc.length (itemsCs acc)/\Below w.heap.size w wr ∧
 (if R.e=0 then R.b.length+1 else 0)<=g/\(∀ x∈acc,x.short)/\acc.length+(if R.e=0 then R.b.length+1 else 0)<=b.length+1
def GetPost (b:Bytes) (w:World) (e:Ending) (w':World):Prop:=∃ v,e=.returned (.tuple #[v,.int .i64 (getI b).2])/\w'.ownsRow w.heap.size 223 4 v (getI b).1.length (itemsCs (getI b).1)/\Below w.heap.size w w'
theorem itemsCs_snoc (x:Item):∀ l:List Item,itemsCs (l++[x])=itemsCs l++itemCs x
 | []=>by simp [itemsCs]
 | y :: l=>by simp only [List.cons_append,itemsCs,itemsCs_snoc x l,List.append_assoc]
theorem row_newI (w:World) (cs:List Value) (T:TypeId) (B:Nat) (hB:B=w.heap.size):∀ j u,cs[j]? = some u->(w.alloc (.cells cs.toArray T)).cell? ((⟨B,0,none⟩:Addr).add j)=some u:=by
 intro j u h
 subst hB
 have e:(⟨w.heap.size,0,none⟩:Addr).add j=⟨w.heap.size,j,none⟩:=by cases j<;>simp [Addr.add]
 rw [e,(Blk.new w T cs.toArray).cell j]
 simpa using h
theorem setCell_size (w:World) (p:Addr) (u:Value):(w.setCell p u).heap.size=w.heap.size:=by simp [World.setCell]
theorem itemsOk_short {l:List Item} (h:∀ x∈l,x.short) (hl:l.length<=400):ItemsOk l:=by
 have:=layI_short h
 exact ⟨λ x hx=>⟨by have:=(h x hx).1;omega,by have:=(h x hx).2.1;omega⟩,λ x hx=>(h x hx).2.2,by omega,by omega⟩
theorem getRel_step {b:Bytes} {w:World} {r:Nat} {R R3:Rd} {acc:List Item} {x:Item} {v:Value} {w7:World}
  (hI:Rd.items ⟨b,0⟩=(acc++R.items.1,R.items.2)) (hS:R.items=(R.item.1 :: R.item.2.items.1,R.item.2.items.2)) (hx:R.item=(x,R3))
  (hsh:∀ y∈acc,y.short) (hs:R.item.1.short) (hle:R.item.2.b.length<=R.b.length) (hst:R.item.2.e=0->R.item.2.b.length<R.b.length)
  (hlen:acc.length+(R.b.length+1)<=b.length+1) (hR:RdAt w7 r R3)
  (hown:w7.ownsRow w.heap.size 223 4 v (acc++[x]).length (itemsCs (acc++[x]))) (hbw:Below w.heap.size w w7) :
  (if R3.e=0 then R3.b.length+1 else 0)<R.b.length+1/\GetRel b w r (if R3.e=0 then R3.b.length+1 else 0) v w7:=by
 rw [hx] at hS hs hle hst
 dsimp only at hS hs hle hst
 have hlt:(if R3.e=0 then R3.b.length+1 else 0)<R.b.length+1:=by
  split
  ·have:=hst (by assumption);omega
  ·omega
 refine ⟨hlt,R3,acc++[x],?_,hR,hown,hbw,Nat.le_refl _,?_,?_⟩
 ·rw [hI,hS];simp
 ·intro y hy
  rcases List.mem_append.1 hy with h | h
  ·exact hsh y h
  ·rw [List.mem_singleton.1 h];exact hs
 ·rw [List.length_append,List.length_singleton];omega
set_option maxHeartbeats 2000000 in
set_option maxRecDepth 100000 in
theorem getI_any (b:Bytes) (w:World) (hb:b.length<=300) :
  Calls Tryz.prog 261 #[.string ⟨b.toArray⟩] w (GetPost b w):=by
 obtain ⟨i0,hi,hz0,hz1,hz2⟩:=info_parts (show (Tryz.prog.info? 223).map (λ i=>(i.zero,i.size,i.bytes))=some (some (.agg #[.string ⟨#[]⟩,.string ⟨#[]⟩,.int .i64 0,.int .i64 0]),4,48) by kernel_rfl)
 go_enter Tryz.func261,Tryz.ntmps261
 go_wp2_with (go_at_call 96;go_must (refine (newReader_any b _ (by omega)).mono ?_);rintro e w1 ⟨r,rfl,hr,hrw,hb1⟩)
 go_loopg [4] (b.length+1) (λ g v wr=>GetRel b w r g v wr)
 case atStart=>exact ⟨⟨b,0⟩,[],rfl,hr,World.ownsRow_nil _ _ _ _,hb1,by simp,by simp,by simp⟩
 case round =>
  obtain ⟨R,acc,hI,hR,hown,hbw,hg,hsh,hlen⟩:=hrel
  have HI:=Hdz hI
  clear hI
  by_cases hc:R.e=0/\R.b≠[]
  ·have hE1:(R.end != 0)=true:=by simp [Rd.end,hc.1,hc.2]
   have hE2:(R.e==0)=true:=by simp [hc.1]
   have HS:=Hdz (Rd.items_step hc)
   have hsz:R.b.length+1<=gk/\acc.length+(R.b.length+1)<=b.length+1:=by rw [if_pos hc.1] at hg hlen;exact ⟨hg,hlen⟩
   have hshort:=Rd.item_ok R
   have hle:=Hdz (Rd.item_le R)
   have hst:=Hdz (@Rd.item_short R)
   have hun:Hid (R.item=if (R.text 40).2.bool.1=true then ({ key:=(R.text 40).1,val:=[],over:=(R.text 40).2.bool.2.var.1,size:=(R.text 40).2.bool.2.var.2.var.1 },(R.text 40).2.bool.2.var.2.var.2) else ({ key:=(R.text 40).1,val:=((R.text 40).2.bool.2.text 60).1,over:=0,size:=0 },((R.text 40).2.bool.2.text 60).2)):=by
    show _=_
    unfold Rd.item
    rfl
   clear hc hg hlen
   have hT:=λ W h=>text_any r R 40 W h
   generalize R.text 40=q1 at hun hT
   obtain ⟨key,R1⟩:=q1
   dsimp only at hun hT
   have hBo:=λ W h=>bool_any r R1 W h
   generalize R1.bool=q2 at hun hBo
   obtain ⟨o,R2⟩:=q2
   dsimp only at hun hBo
   have HT:=Hdz hT
   have HB:=Hdz hBo
   clear hT hBo
   cases o
   ·have hT2:=λ W h=>text_any r R2 60 W h
    generalize R2.text 60=q3 at hun hT2
    obtain ⟨val,R3⟩:=q3
    dsimp only at hun hT2
    have HT2:=Hdz hT2
    clear hT2
    have hx:=Hdz (hun.out.trans (if_neg (by simp)))
    clear hun
    go_wp2_with (first
     | (go_at_call 100;go_must (refine (end_any _ _ _ hR).mono ?_);rintro e w2 ⟨rfl,rfl⟩)
     | (go_at_call 98;go_must (refine (err_any _ _ _ hR).mono ?_);rintro e w2 ⟨rfl,rfl⟩))
    go_must (refine (HT.out _ hR).mono ?_)
    rintro e w3 ⟨rfl,hR1,K3⟩
    have hown3:=own_keeps hown K3 (own_ne hown hR.1 (by decide))
    have hbw3:Below w.heap.size w w3:=hbw.trans (K3.below hbw.size (λ i hi h=>by omega))
    have hown3a:(w3.alloc (.cells #[strV key,strV [],.int .i64 0,.int .i64 0] 223)).ownsRow w.heap.size 223 4 _ acc.length (itemsCs acc):=hown3.alloc _
    have hR1a:RdAt (w3.alloc (.cells #[strV key,strV [],.int .i64 0,.int .i64 0] 223)) r R1:=⟨hR1.1.alloc _,hR1.2⟩
    have bx3:BoxI (w3.alloc (.cells #[strV key,strV [],.int .i64 0,.int .i64 0] 223)) w3.heap.size { key:=key,val:=[],over:=0,size:=0 }:=Blk.new _ _ _
    go_wp2_with (go_at_call 281;go_must (refine (HB.out _ hR1a).mono ?_);rintro e w4 ⟨rfl,hR2,K4⟩)
    go_must (refine (HT2.out _ hR2).mono ?_)
    rintro e w5 ⟨rfl,hR3,K5⟩
    have hrb:¬ w3.heap.size=r:=by have:=hR1.1.lt;omega
    have hrb':r≠w3.heap.size:=λ e=>hrb e.symm
    have bx5:=Blk.keeps (Blk.keeps bx3 K4 hrb) K5 hrb
    have hown4:=own_keeps hown3a K4 (own_ne hown3a hR1a.1 (by decide))
    have hown5:=own_keeps hown4 K5 (own_ne hown4 hR2.1 (by decide))
    have hbw5:Below w.heap.size w w5:=(hbw3.alloc hbw3.size _).trans ((K4.below (by have:=hbw3.size;simp;omega) (λ i hi h=>by omega)).trans (K5.below (by have:=hbw3.size;have:=K4.size;simp at this;omega) (λ i hi h=>by omega)))
    obtain ⟨c50,c52,c51,c53⟩:=BoxI.c bx5
    have f51:=Blk.frozen bx5 1
    dsimp only at c50 c51 c52 c53
    have hl3:=λ k hk=>(hown3.lt k hk).2
    have hs6:=hbw5.size
    have K6:Keeps (λ k=>k=w3.heap.size) w5 (w5.setCell ⟨w3.heap.size,1,none⟩ (.string ⟨val.toArray⟩)):=(Keeps.refl (λ k=>k=w3.heap.size) _).setCell (λ _=>rfl) _
    have hown6:=own_keeps hown5 K6 (λ k hk e=>by have:=hl3 k hk;omega)
    have hR6:RdAt (w5.setCell ⟨w3.heap.size,1,none⟩ (.string ⟨val.toArray⟩)) r R3:=⟨hR3.1.far hrb' _,hR3.2⟩
    have hbw6:Below w.heap.size w (w5.setCell ⟨w3.heap.size,1,none⟩ (.string ⟨val.toArray⟩)):=hbw5.trans (K6.below hbw5.size (λ i hi e=>by have:=hbw3.size;omega))
    go_wp2_with (at_builtin;go_must (refine wpList_append_own _ rfl _ _ 217 rfl w.heap.size 223 i0 _ 4 48 Tryz.underlying217 hi hz0 hz1 hz2 rfl (by decide) _ _ _ rfl (hown6.alloc _) ⟨w5.heap.size,0,none⟩ 1 1 (itemCs { key:=key,val:=val,over:=0,size:=0 }) rfl rfl ?c1 ?c2 ?c3 ?c4 ?c5 ?_))
    case c1=>exact row_newI _ (itemCs { key:=key,val:=val,over:=0,size:=0 }) _ _ (setCell_size _ _ _ |>.symm)
    case c2=>simp [itemCs,Value.oneCell',strV]
    case c3=>unfold maxLen;omega
    case c4=>omega
    case c5=>have:=hbw6.size;simp at this ⊢;omega
    intro v' w7 hown7 hgrow _
    have hown7':w7.ownsRow w.heap.size 223 4 v' (acc++[({ key:=key,val:=val,over:=0,size:=0 }:Item)]).length (itemsCs (acc++[{ key:=key,val:=val,over:=0,size:=0 }])):=by
     rw [itemsCs_snoc,List.length_append]
     exact hown7
    have K7:Keeps (λ k=>_=some k) _ w7:=(Keeps.refl (λ k=>_=some k) _).grown hgrow (λ k hk _=>hk)
    have hR7:RdAt w7 r R3:=⟨(hR6.1.alloc _).keeps K7 (λ hk=>own_ne hown6 hR6.1 (by decide) r hk rfl),hR6.2⟩
    have hbw7:Below w.heap.size w w7:=(hbw6.alloc hbw6.size _).trans (K7.below (by have:=hbw6.size;simp at this ⊢;omega) (λ i hi hk=>by have:=(hown6.lt i hk).1;omega))
    have hend:=getRel_step HI.out HS.out hx.out hsh hshort hle.out hst.out hsz.2 hR7 hown7' hbw7
    go_wp2_with (fail)
    go_roundg (if R3.e=0 then R3.b.length+1 else 0)
    case measure=>exact Nat.lt_of_lt_of_le hend.1 hsz.1
    case rel=>exact hend.2
   ·have hV1:=λ W h=>var_any r R2 W h
    generalize R2.var=q3 at hun hV1
    obtain ⟨over,R3⟩:=q3
    dsimp only at hun hV1
    have hV2:=λ W h=>var_any r R3 W h
    generalize R3.var=q4 at hun hV2
    obtain ⟨size,R4⟩:=q4
    dsimp only at hun hV2
    have HV1:=Hdz hV1
    have HV2:=Hdz hV2
    clear hV1 hV2
    have hx:=Hdz (hun.out.trans (if_pos rfl))
    clear hun
    go_wp2_with (first
     | (go_at_call 100;go_must (refine (end_any _ _ _ hR).mono ?_);rintro e w2 ⟨rfl,rfl⟩)
     | (go_at_call 98;go_must (refine (err_any _ _ _ hR).mono ?_);rintro e w2 ⟨rfl,rfl⟩))
    go_must (refine (HT.out _ hR).mono ?_)
    rintro e w3 ⟨rfl,hR1,K3⟩
    have hown3:=own_keeps hown K3 (own_ne hown hR.1 (by decide))
    have hbw3:Below w.heap.size w w3:=hbw.trans (K3.below hbw.size (λ i hi h=>by omega))
    have hown3a:(w3.alloc (.cells #[strV key,strV [],.int .i64 0,.int .i64 0] 223)).ownsRow w.heap.size 223 4 _ acc.length (itemsCs acc):=hown3.alloc _
    have hR1a:RdAt (w3.alloc (.cells #[strV key,strV [],.int .i64 0,.int .i64 0] 223)) r R1:=⟨hR1.1.alloc _,hR1.2⟩
    have bx3:BoxI (w3.alloc (.cells #[strV key,strV [],.int .i64 0,.int .i64 0] 223)) w3.heap.size { key:=key,val:=[],over:=0,size:=0 }:=Blk.new _ _ _
    go_wp2_with (go_at_call 281;go_must (refine (HB.out _ hR1a).mono ?_);rintro e w4 ⟨rfl,hR2,K4⟩)
    go_must (refine (HV1.out _ hR2).mono ?_)
    rintro e w4b ⟨rfl,hR3,K4b⟩
    have hrb:¬ w3.heap.size=r:=by have:=hR1.1.lt;omega
    have hrb':r≠w3.heap.size:=λ e=>hrb e.symm
    have hown4:=own_keeps hown3a K4 (own_ne hown3a hR1a.1 (by decide))
    have hown4b:=own_keeps hown4 K4b (own_ne hown4 hR2.1 (by decide))
    have hbw4b:Below w.heap.size w w4b:=(hbw3.alloc hbw3.size _).trans ((K4.below (by have:=hbw3.size;simp;omega) (λ i hi h=>by omega)).trans (K4b.below (by have:=hbw3.size;have:=K4.size;simp at this;omega) (λ i hi h=>by omega)))
    go_wp2_with (fail)
    go_must (refine (HV2.out _ hR3).mono ?_)
    rintro e w5 ⟨rfl,hR4,K5⟩
    have bx5:=Blk.keeps (Blk.keeps (Blk.keeps bx3 K4 hrb) K4b hrb) K5 hrb
    have hown5:=own_keeps hown4b K5 (own_ne hown4b hR3.1 (by decide))
    have hbw5:Below w.heap.size w w5:=hbw4b.trans (K5.below hbw4b.size (λ i hi h=>by omega))
    obtain ⟨c50,c52,c51,c53⟩:=BoxI.c bx5
    have f52:=Blk.frozen bx5 2
    have f53:=Blk.frozen bx5 3
    dsimp only at c50 c51 c52 c53
    have hl3:=λ k hk=>(hown3.lt k hk).2
    have hs6:=hbw5.size
    have K6:Keeps (λ k=>k=w3.heap.size) w5 ((w5.setCell ⟨w3.heap.size,2,none⟩ (.int .i64 over)).setCell ⟨w3.heap.size,3,none⟩ (.int .i64 size)):=((Keeps.refl (λ k=>k=w3.heap.size) _).setCell (λ _=>rfl) _).setCell (λ _=>rfl) _
    have hown6:=own_keeps hown5 K6 (λ k hk e=>by have:=hl3 k hk;omega)
    have hR6:RdAt ((w5.setCell ⟨w3.heap.size,2,none⟩ (.int .i64 over)).setCell ⟨w3.heap.size,3,none⟩ (.int .i64 size)) r R4:=⟨(hR4.1.far hrb' _).far hrb' _,hR4.2⟩
    have hbw6:Below w.heap.size w ((w5.setCell ⟨w3.heap.size,2,none⟩ (.int .i64 over)).setCell ⟨w3.heap.size,3,none⟩ (.int .i64 size)):=hbw5.trans (K6.below hbw5.size (λ i hi e=>by have:=hbw3.size;omega))
    go_wp2_with (at_builtin;go_must (refine wpList_append_own _ rfl _ _ 217 rfl w.heap.size 223 i0 _ 4 48 Tryz.underlying217 hi hz0 hz1 hz2 rfl (by decide) _ _ _ rfl (hown6.alloc _) ⟨w5.heap.size,0,none⟩ 1 1 (itemCs { key:=key,val:=[],over:=over,size:=size }) rfl rfl ?c1 ?c2 ?c3 ?c4 ?c5 ?_))
    case c1=>exact row_newI _ (itemCs { key:=key,val:=[],over:=over,size:=size }) _ _ (by rw [setCell_size,setCell_size])
    case c2=>simp [itemCs,Value.oneCell',strV]
    case c3=>unfold maxLen;omega
    case c4=>omega
    case c5=>have:=hbw6.size;simp at this ⊢;omega
    intro v' w7 hown7 hgrow _
    have hown7':w7.ownsRow w.heap.size 223 4 v' (acc++[({ key:=key,val:=[],over:=over,size:=size }:Item)]).length (itemsCs (acc++[{ key:=key,val:=[],over:=over,size:=size }])):=by
     rw [itemsCs_snoc,List.length_append]
     exact hown7
    have K7:Keeps (λ k=>_=some k) _ w7:=(Keeps.refl (λ k=>_=some k) _).grown hgrow (λ k hk _=>hk)
    have hR7:RdAt w7 r R4:=⟨(hR6.1.alloc _).keeps K7 (λ hk=>own_ne hown6 hR6.1 (by decide) r hk rfl),hR6.2⟩
    have hbw7:Below w.heap.size w w7:=(hbw6.alloc hbw6.size _).trans (K7.below (by have:=hbw6.size;simp at this ⊢;omega) (λ i hi hk=>by have:=(hown6.lt i hk).1;omega))
    have hend:=getRel_step HI.out HS.out hx.out hsh hshort hle.out hst.out hsz.2 hR7 hown7' hbw7
    go_wp2_with (fail)
    go_roundg (if R4.e=0 then R4.b.length+1 else 0)
    case measure=>exact Nat.lt_of_lt_of_le hend.1 hsz.1
    case rel=>exact hend.2
  ·have hI':Rd.items ⟨b,0⟩=(acc,R):=by rw [HI.out,Rd.items_end hc];simp
   clear HI
   have HI:=Hdz hI'
   clear hI'
   have hIt:ItemsOk acc:=itemsOk_short hsh (by omega)
   have hSl:=Sl.of_own hown
   obtain ⟨A,c,hv,_⟩:=hSl
   subst hv
   have hSl:=Sl.of_own hown
   have hP:=λ W h=>putI_any A acc.length c acc W h hIt
   have hG:=Hdz (show getI b=if R.e≠0\/(putI acc).2≠0\/(putI acc).1≠b then ([],4) else (acc,0) by unfold getI;rw [HI.out])
   unfold PutPost at hP
   generalize putI acc=q at hP hG
   obtain ⟨back,pe⟩:=q
   dsimp only at hP hG
   have HP:=Hdz hP
   clear hP HI hIt hlen hg hsh
   by_cases he:R.e=0
   ·have hE1:(R.end != 0)=false:=by have:R.b=[]:=Classical.byContradiction λ h=>hc ⟨he,h⟩;simp [Rd.end,he,this]
    have hE3:(R.e != 0)=false:=by simp [he]
    clear he hc
    go_wp2_with (go_at_call 100;go_must (refine (end_any _ _ _ hR).mono ?_);rintro e w2 ⟨rfl,rfl⟩)
    go_must (refine (HP.out _ hSl).mono ?_)
    rintro e w3 ⟨rfl,hb3⟩
    have hR3:RdAt w3 r R:=⟨hR.1.below' hb3,hR.2⟩
    have hown3:=own_keeps hown (Keeps.of_below (S:=λ _=>False) hb3) (λ _ _ h=>h)
    have hbw3:=hbw.trans ((Keeps.of_below (S:=λ _=>False) hb3).below hbw.size (λ _ _ h=>h))
    cases hp:(pe != 0)
    ·have hp0:pe=0:=by simpa using hp
     by_cases hk:back=b
     ·have hG':getI b=(acc,0):=hG.out.trans (if_neg (by simp [hp0,hk];simpa using hE3))
      have hkb:(!back==b)=false:=by simp [hk]
      clear hk hp0
      go_wp2_with (go_at_call 98;go_must (refine (err_any _ _ _ hR3).mono ?_);rintro e w4 ⟨rfl,rfl⟩)
      go_ret2
      exact ⟨_,by rw [hG']<;>rfl,by rw [hG'];exact hown3,hbw3⟩
     ·have hG':getI b=([],4):=hG.out.trans (if_pos (.inr (.inr hk)))
      have hkb:(!back==b)=true:=by simp [hk]
      clear hk hp0
      go_wp2_with (go_at_call 98;go_must (refine (err_any _ _ _ hR3).mono ?_);rintro e w4 ⟨rfl,rfl⟩)
      go_ret2
      exact ⟨_,by rw [hG']<;>rfl,by rw [hG'];exact World.ownsRow_nil _ _ _ _,hbw3⟩
    ·have hG':getI b=([],4):=hG.out.trans (if_pos (.inr (.inl (by simpa using hp))))
     go_wp2_with (go_at_call 98;go_must (refine (err_any _ _ _ hR3).mono ?_);rintro e w4 ⟨rfl,rfl⟩)
     go_ret2
     exact ⟨_,by rw [hG']<;>rfl,by rw [hG'];exact World.ownsRow_nil _ _ _ _,hbw3⟩
   ·have hE1:(R.end != 0)=true:=by simp [Rd.end,he]
    have hE2:(R.e==0)=false:=by simp [he]
    have hE3:(R.e != 0)=true:=by simp [he]
    have hG':getI b=([],4):=hG.out.trans (if_pos (.inl he))
    clear he hc
    go_wp2_with (first
     | (go_at_call 100;go_must (refine (end_any _ _ _ hR).mono ?_);rintro e w2 ⟨rfl,rfl⟩)
     | (go_at_call 98;go_must (refine (err_any _ _ _ hR).mono ?_);rintro e w2 ⟨rfl,rfl⟩))
    go_must (refine (HP.out _ hSl).mono ?_)
    rintro e w3 ⟨rfl,hb3⟩
    have hR3:RdAt w3 r R:=⟨hR.1.below' hb3,hR.2⟩
    have hbw3:=hbw.trans ((Keeps.of_below (S:=λ _=>False) hb3).below hbw.size (λ _ _ h=>h))
    go_wp2_with (go_at_call 98;go_must (refine (err_any _ _ _ hR3).mono ?_);rintro e w4 ⟨rfl,rfl⟩)
    go_ret2
    exact ⟨_,by rw [hG']<;>rfl,by rw [hG'];exact World.ownsRow_nil _ _ _ _,hbw3⟩
end Go.Ev
