/-
  Texts of this claim.
-/
import Derived.Test.YtmfoiaaehkandaaGreatDoorMOGwKv5S
set_option linter.unusedVariables false
set_option linter.unusedSimpArgs false
set_option maxHeartbeats 4000000
set_option maxRecDepth 100000
namespace Go.Ev
open Go.Proofs Go.RowKit
def Begin19P (w:World) (e:Ending) (w':World):Prop:=∃ bb p,e=.returned (.tuple #[ptrV bb,.bool true])/\Hb w.heap.size p bb 3000 0 [] w'/\Below w.heap.size w w'
theorem begin19 (w:World):Calls Tryz.prog 13 #[] w (Begin19P w):=by
 go_enter Tryz.func13,Tryz.ntmps13
 go_wp2_with (fail)
 go_must (refine (begin_any w).mono ?_)
 rintro e w1 ⟨d,f,p,pc,root,rfl,hp,hs,hb1⟩
 have HO:=Hdz (hp.opened hs hb1.size)
 have HB1:=Hdz hb1
 clear hp hs hb1
 go_wp2_with (fail)
 go_must (refine (open_ok p root w1).mono ?_)
 rintro e w2 ⟨rfl,rfl⟩
 have HB2:=Hdz (HB1.out.trans (((Below.refl w1.heap.size w1).alloc (Nat.le_refl _) (.cells #[ptrV p,.int .i64 root,.int .i64 0] 137)).mono HB1.out.size))
 obtain ⟨bb,hbb⟩:=nmz (w1.heap.size)
 rw [hbb] at HO ⊢
 obtain ⟨w2,hw2⟩:=nmz (w1.alloc (.cells #[ptrV p,.int .i64 root,.int .i64 0] 137))
 rw [hw2] at HO HB2 ⊢
 clear hw2 hbb HB1
 go_wp2_with (fail)
 refine bodyPost_ret (v:=.tuple #[ptrV bb,.bool true]) (by simp [results,Tryz.results13,go_sem]) rfl ?_
 exact ⟨bb,p,rfl,HO.out,HB2.out⟩
theorem made_ds {rn':Nat} {L':List Bk} (h:MadesB [] 0 [dataK,sessK] rn' L'):rn'=2/\∃ r1 r2,L'=[⟨dataK,⟨r2,[],[r2],0⟩⟩,⟨sessK,⟨r1,[],[r1],0⟩⟩]:=by
 obtain ⟨rn1,L1,h1,h2⟩:=MadesB.snoc_inv (ns:=[dataK]) (nm:=sessK) h
 obtain ⟨rn0,L0,h0,h1⟩:=MadesB.snoc_inv (ns:=[]) (nm:=dataK) h1
 obtain ⟨rfl,rfl⟩:=h0.nil_inv
 rcases h1 with ⟨h1,_⟩ | ⟨_,r,rfl,rfl⟩
 ·exact absurd rfl h1
 ·rcases h2 with ⟨h2,_⟩ | ⟨_,r2,rfl,rfl⟩
  ·exact absurd (by simp [getB,insB,sessK,dataK]) h2
  ·exact ⟨rfl,r2,r,by simp [insB,sessK,dataK,lessB,Op.bytesLess]⟩
theorem sn_new' {B bb p:Nat} {L':List Bk} {rn':Nat} {W:World} (h:Hb B p bb 3000 rn' L' W) (hm:MadesB [] 0 [dataK,sessK] rn' L'):Sn (0,[]) (λ k=>B<=k) bb 2 0 [] W:=by
 obtain ⟨rfl,r1,r2,rfl⟩:=made_ds hm
 exact ⟨⟨p,2,⟨r2,[],[r2],0⟩,⟨r1,[],[r1],0⟩,h.hf,rfl,rfl,Nat.le_refl _,Nat.zero_le _,Nat.zero_le _,Nat.zero_le _⟩,⟨λ x hx=>(by cases hx),List.Pairwise.nil,by omega⟩,λ x hx=>(by cases hx),by simp,by simp [ndN,sumV]⟩
def InitP (B bb:Nat) (w:World) (e:Ending) (w':World):Prop:=e=.returned (.int .i64 0)/\Sn (0,[]) (λ k=>B<=k) bb 2 0 [] w'/\Below B w w'
theorem init_ok {B p bb:Nat} {w1:World} (hH:Hb B p bb 3000 0 [] w1) (hB:B<=w1.heap.size):Calls Tryz.prog 63 #[ptrV bb] w1 (InitP B bb w1):=by
 have hrow:=sl_new w1 [strV dataK,strV sessK] 9
 have HM:=Hdz (hH.make ((Below.refl _ _).alloc (Nat.le_refl _) _) w1.heap.size (Nat.le_refl _) 0 2 2 [dataK,sessK] hrow (by decide) (by omega) (by decide) (λ k rn' L' hm=>hm.roomyTake (i:=0) ⟨by simp,by omega,λ b hb=>(by cases hb)⟩ (by simp)))
 have HB1:=Hdz ((Below.refl B w1).alloc hB (.cells #[strV dataK,strV sessK] 9))
 clear hH hrow
 go_enter Tryz.func63,Tryz.ntmps63
 go_wp2_with (fail)
 go_must (refine HM.out.mono ?_)
 rintro e w2 ⟨rn2,L2,rfl,hQ,hH,hb2⟩
 have HS:=Hdz (sn_new' hH hQ)
 have HB2:=Hdz (HB1.out.trans hb2)
 clear hQ hH hb2
 go_wp2_with (fail)
 refine bodyPost_ret (v:=.int .i64 0) (by simp [results,Tryz.results63,go_sem]) rfl ?_
 exact ⟨rfl,HS.out,HB2.out⟩
def Begin25P (w:World) (e:Ending) (w':World):Prop:=∃ bb u,e=.returned (.tuple #[ptrV bb,u,.bool true])/\Sn (0,[]) (λ k=>w.heap.size<=k) bb 2 0 [] w'/\w'.ownsRow w.heap.size 181 2 u 2 [strV dataK,.slice none 0 0,strV sessK,.slice none 0 0]/\Below w.heap.size w w'
theorem begin25 (w:World):Calls Tryz.prog 22 #[] w (Begin25P w):=by
 go_enter Tryz.func22,Tryz.ntmps22
 go_wp2_with (fail)
 go_must (refine (begin19 w).mono ?_)
 rintro e w1 ⟨bb,p,rfl,hH,hb1⟩
 have HM:=Hdz (init_ok hH hb1.size)
 have HB1:=Hdz hb1
 clear hH hb1
 go_wp2_with (fail)
 go_must (refine HM.out.mono ?_)
 rintro e w2 ⟨rfl,hS,hb2⟩
 have HS:=Hdz hS
 have HB2:=Hdz (HB1.out.trans hb2)
 clear hS hb2
 go_wp2_with (fail)
 go_must (refine (makeR_nil dataK w2 (by decide) (by decide)).mono ?_)
 rintro e w3 ⟨u,rfl,hu,hb3⟩
 have HS3:=Hdz (HS.out.below hb3)
 have HB3:=Hdz (HB2.out.trans (hb3.mono HB2.out.size))
 obtain ⟨A,c,rfl,-⟩:=Sl.of_own hu
 have HU:=Hdz hu
 clear hu hb3
 go_wp2_with (fail)
 go_must (refine (makeR_end w2.heap.size dataK sessK _ w3 HU.out (by decide) (by decide) (by decide) (by decide)).mono ?_)
 rintro e w4 ⟨v,rfl,hv,hb4⟩
 have HS4:=Hdz (HS3.out.below hb4)
 have HB4:=Hdz (HB3.out.trans (hb4.mono HB3.out.size))
 obtain ⟨A4,c4,rfl,-⟩:=Sl.of_own hv
 have HV:=Hdz (own_base hv HB3.out.size)
 clear hv hb4
 go_wp2_with (fail)
 refine bodyPost_ret (v:=.tuple #[ptrV bb,.slice A4 2 c4,.bool true]) (by simp [results,Tryz.results22,go_sem]) rfl ?_
 exact ⟨bb,_,rfl,HS4.out,HV.out,HB4.out⟩
section
variable {D:DB} {F:Nat->Prop} {bb q n:Nat} {l:List (Nat × Ses)} {W W':World}
theorem Sn.rangeD (h:Sn D F bb q n l W) (hq:q<=20000) (hl:D.2.length<=100000) (lo hi:Bytes) (mx:Int) :
  Calls Tryz.prog 26 #[ptrV bb,strV dataK,strV lo,strV hi,.int .i64 mx] W (RangePost W.heap.size (rangeP lo hi mx D.2) W):=by
 obtain ⟨p,rn,td,ts,h1,h2,h3,h4,h5,h6,h7⟩:=h.ex
 obtain ⟨S,root,g1,g2⟩:=h1.ex
 have:=rangeB_ok dataK lo hi mx ⟨dataK,td⟩ g1 (getB_data td ts) (by omega) (by show td.n<=_;omega) (by show td.ps.length<=_;rw [h2];exact hl) (by decide) (by decide)
 simp only [h2] at this
 exact this
end
def Room3P (x0 x1 x2 left:Int) (w:World) (e:Ending) (w':World):Prop:=∃ r:Int,e=.returned (.int .i64 r)/\(-1<=r/\r<=60000/\(0<=r->r+x0+x1+x2=left))/\w=w'
theorem room_three (g:Nat) (T:TypeId) (x0 x1 x2 left:Int) (w:World) (h:Blk w g T #[.int .i64 x0,.int .i64 x1,.int .i64 x2]) (h0:0<=x0) (h1:0<=x1) (h2:0<=x2) (hl : -1<=left/\left<=60000) :
  Calls Tryz.prog 28 #[.int .i64 left,.slice (some ⟨g,0,none⟩) 3 3] w (Room3P x0 x1 x2 left w):=by
 have c0:w.cell? ⟨g,0,none⟩=some (.int .i64 x0):=h.cell 0
 have c1:w.cell? ⟨g,1,none⟩=some (.int .i64 x1):=h.cell 1
 have c2:w.cell? ⟨g,2,none⟩=some (.int .i64 x2):=h.cell 2
 clear h
 go_enter Tryz.func28,Tryz.ntmps28
 go_wp2_with (fail)
 go_loopg [0,5] 3 (λ gk s0 s5 wr=>∃ (r:Int) (i:Nat) (x:Int),s0=.int .i64 r/\s5=.int .i64 (i:Int)/\i+gk=3 ∧ -1<=r/\r<=60000/\Hid ((i=0/\r=left/\x=x0)\/(i=1/\0<=r/\r+x0=left/\x=x1)\/(i=2/\0<=r/\r+x0+x1=left/\x=x2)\/(i=3/\0<=r/\r+x0+x1+x2=left))/\Hid (i<3->w.cell? ⟨g,i,none⟩=some (.int .i64 x))/\wr=w)
 case atStart=>exact ⟨left,0,x0,rfl,rfl,rfl,hl.1,hl.2,.inl ⟨rfl,rfl,rfl⟩,λ _=>c0,rfl⟩
 case round =>
  obtain ⟨r,i,x,rfl,rfl,hi,hr1,hr2,hd,hx,rfl⟩:=hrel
  have C0:=Hdz c0
  have C1:=Hdz c1
  have C2:=Hdz c2
  clear c0 c1 c2
  by_cases h3:i<3
  ·have hx':=hx.out h3
   have h2':(i:Int)<3:=by omega
   have hi0:(0:Int)<=(i:Int):=by omega
   have hw1:IntKind.i64.wrap ((i:Int)+1)=(i:Int)+1:=IntWalk.i64_in _ (by omega)
   have hxp:0<=x/\(0<=r->x<=r\/r<x):=⟨by rcases hd.out with h | h | h | h<;>omega,λ _=>by omega⟩
   clear hx
   by_cases hn:r<0
   ·go_wp2_with (fail)
    go_ret
    exact ⟨-1,rfl,⟨by omega,by omega,λ h=>by omega⟩,rfl⟩
   ·by_cases hg:r<x
    ·go_wp2_with (fail)
     go_ret
     exact ⟨-1,rfl,⟨by omega,by omega,λ h=>by omega⟩,rfl⟩
    ·have hw2:IntKind.i64.wrap (r-x)=r-x:=IntWalk.i64_in _ (by omega)
     go_wp2_with (fail)
     go_roundg (gk-1)
     case measure=>omega
     case rel =>
      refine ⟨r-x,i+1,if i=0 then x1 else x2,rfl,by simp,by omega,by omega,by omega,?_,λ h=>?_,rfl⟩
      ·show _\/_
       rcases hd.out with h | h | h | h
       ·exact .inr (.inl ⟨by omega,by omega,by omega,if_pos h.1⟩)
       ·exact .inr (.inr (.inl ⟨by omega,by omega,by omega,if_neg (by omega)⟩))
       ·exact .inr (.inr (.inr ⟨by omega,by omega,by omega⟩))
       ·omega
      ·rcases (by omega:i=0\/i=1) with e | e
       ·subst e;simpa using C1.out
       ·subst e;simpa using C2.out
  ·have h2':¬ (i:Int)<3:=by omega
   clear hx
   go_wp2_with (fail)
   go_ret
   refine ⟨r,rfl,⟨by omega,by omega,λ _=>?_⟩,rfl⟩
   rcases hd.out with h | h | h | h<;>omega
def kopCs (o:KOp):List Value:=[.int .i64 o.kind,.int .i64 o.ses,.int .i64 o.seq,strV o.key,strV o.val,strV o.old]
theorem kopCs_len (o:KOp):(kopCs o).length=6:=rfl
def KopsAt (w:World) (v:Value) (l:List KOp):Prop:=Sl w 6 v l.length (l.flatMap kopCs)/\l.length<=maxLen/\∀ o∈l,o.key.length<=maxLen/\o.val.length<=maxLen/\o.old.length<=maxLen
def sizK:List KOp->Nat
 | []=>0
 | o :: l=>o.key.length+o.val.length+o.old.length+sizK l
theorem sizK_take:∀ (l:List KOp) (i:Nat) (h:i<l.length),sizK (l.take (i+1))=sizK (l.take i)+(l[i].key.length+l[i].val.length+l[i].old.length)
 | o :: l,0,_=>by simp [sizK]
 | o :: l,i+1,h=>by
  have:=sizK_take l i (by simpa using h)
  simp only [List.take_succ_cons,sizK,List.getElem_cons_succ]
  omega
def FewP (ops:List KOp) (w:World) (e:Ending) (w':World):Prop:=
 ∃ b:Bool,e=.returned (.bool b)/\(b=true->ops.length<=200/\sizK ops<=60000)/\Below w.heap.size w w'
theorem few_any (A:Option Addr) (n c:Nat) (ops:List KOp) (w:World) (h:KopsAt w (.slice A n c) ops) :
  Calls Tryz.prog 20 #[.slice A n c] w (FewP ops w):=by
 obtain ⟨hv,hml,hlen⟩:=h
 have hn:n=ops.length:=by obtain ⟨_,_,e,_⟩:=hv;cases e;rfl
 subst hn
 unfold maxLen at hml
 have HLen:=Hdz hlen
 clear hlen
 go_enter Tryz.func20,Tryz.ntmps20
 go_wp2_with (fail)
 go_loopg [3,4] ops.length (λ gk s3 s4 wr=>∃ (r:Int) (i:Nat),s3=.int .i64 r/\s4=.int .i64 (i:Int)/\i+gk=ops.length ∧ -1<=r/\r<=60000/\i<=400/\Hid (0<=r->r+(sizK (ops.take i):Int)=60000)/\Below w.heap.size w wr)
 case atStart=>exact ⟨60000,0,rfl,rfl,by omega,by omega,by omega,by omega,(λ _=>by simp [sizK]),Below.refl _ _⟩
 case round =>
  obtain ⟨r,i,rfl,rfl,hi,hr1,hr2,hi6,hall,hbw⟩:=hrel
  by_cases h1:i<ops.length
  ·have h1':(i:Int)<(ops.length:Int):=by omega
   by_cases h2:i<400
   ·have h2':(i:Int)<400:=by omega
    by_cases h3:0<=r
    ·have hi0:(0:Int)<=(i:Int):=by omega
     have hw1:IntKind.i64.wrap ((i:Int)+1)=(i:Int)+1:=IntWalk.i64_in _ (by omega)
     obtain ⟨A',c',e0,_,_,hcl⟩:=hv.below hbw
     cases e0
     obtain ⟨blk,off,rfl,hbl,hcell⟩:=hcl (by omega)
     have p1:(ops.flatMap kopCs)[i*6+3]? = some (strV ops[i].key):=flat_at kopCs_len ops i 3 h1 (by omega)
     have p2:(ops.flatMap kopCs)[i*6+4]? = some (strV ops[i].val):=flat_at kopCs_len ops i 4 h1 (by omega)
     have p3:(ops.flatMap kopCs)[i*6+5]? = some (strV ops[i].old):=flat_at kopCs_len ops i 5 h1 (by omega)
     have x1:wr.cell? ⟨blk,off+i*6+3,none⟩=_:=hcell _ _ p1
     have x2:wr.cell? ⟨blk,off+i*6+4,none⟩=_:=hcell _ _ p2
     have x3:wr.cell? ⟨blk,off+i*6+5,none⟩=_:=hcell _ _ p3
     obtain ⟨m1,m2,m3⟩:=HLen.out _ (List.getElem_mem h1)
     unfold maxLen at m1 m2 m3
     have hst:=sizK_take ops i h1
     have hR:∀ W g T,Blk W g T #[.int .i64 (ops[i].key.length:Int),.int .i64 (ops[i].val.length:Int),.int .i64 (ops[i].old.length:Int)]->Calls Tryz.prog 28 #[.int .i64 r,.slice (some ⟨g,0,none⟩) 3 3] W (Room3P ops[i].key.length ops[i].val.length ops[i].old.length r W):=
      λ W g T hb=>room_three g T _ _ _ r W hb (by omega) (by omega) (by omega) ⟨hr1,hr2⟩
     have HR:=Hdz hR
     have HX:=Hdz hcell
     have HSt:=Hdz hst
     clear hR hcell hcl p1 p2 p3 hv hst
     generalize hk0:ops[i].key=key at *
     generalize hv0:ops[i].val=val at *
     generalize ho0:ops[i].old=old at *
     clear hk0 hv0 ho0
     go_wp2_with (fail)
     refine wRz ?_
     try simp only [lAz]
     refine tA 0 ?_;try simp only [lAz]
     refine tA 1 ?_;try simp only [lAz]
     refine tA 2 ?_;try simp only [lAz]
     refine tA 3 ?_;try simp only [lAz]
     refine tA 4 ?_;try simp only [lAz]
     refine tA 7 ?_;try simp only [lAz]
     refine tA 8 ?_;try simp only [lAz]
     refine tA 9 ?_;try simp only [lAz]
     refine tA 10 ?_;try simp only [lAz]
     refine tA 13 ?_;try simp only [lAz]
     refine tA 14 ?_;try simp only [lAz]
     refine tA 15 ?_;try simp only [lAz]
     refine tA 16 ?_;try simp only [lAz]
     refine rA 5 (v:=?_) (hy:=?hy) ?_;case hy=>(intro w hE;have q0:=hE.cell x1;go_simp;try with_reducible rfl)
     try simp only [lAz]
     refine rA 11 (v:=?_) (hy:=?hy) ?_;case hy=>(intro w hE;have q0:=hE.cell x2;go_simp;try with_reducible rfl)
     try simp only [lAz]
     refine rA 17 (v:=?_) (hy:=?hy) ?_;case hy=>(intro w hE;have q0:=hE.cell x3;go_simp;try with_reducible rfl)
     try simp only [lAz]
     refine tA 6 ?_;try simp only [lAz]
     refine tA 12 ?_;try simp only [lAz]
     refine tA 18 ?_;try simp only [lAz]
     refine rZz 19 λ K hK=>?_;go_simp;apply hK;clear hK K
     refine rZz 20 λ K hK=>?_;go_simp
     (go_must (refine (HR.out _ _ _ (Blk.new _ _ _).drew).mono ?_);rintro e w1 ⟨r',rfl,⟨q1,q2,q3⟩,rfl⟩)
     go_simp
     apply hK
     clear hK K
     refine rZz 21 λ K hK=>?_;go_simp;apply hK;clear hK K
     refine wDz ?_
     go_wp2_with (fail)
     go_roundg (gk-1)
     case measure=>omega
     case rel =>
      refine ⟨r',i+1,rfl,by simp,by omega,q1,q2,by omega,λ h0=>?_,(hbw.alloc hbw.size _).drew⟩
      have e1:=q3 h0
      have e2:=hall.out h3
      have e3:=HSt.out
      omega
    ·have h3':¬ (0:Int)<=r:=h3
     by_cases h4:ops.length<=200
     ·have h4':(ops.length:Int)<=200:=by omega
      go_wp2_with (fail)
      go_ret
      exact ⟨_,rfl,λ hb=>by simp at hb;try omega,hbw⟩
     ·have h4':¬ (ops.length:Int)<=200:=by omega
      go_wp2_with (fail)
      go_ret
      exact ⟨_,rfl,λ hb=>by simp at hb;try omega,hbw⟩
   ·have h2':¬ (i:Int)<400:=by omega
    have h4':¬ (ops.length:Int)<=200:=by omega
    go_wp2_with (fail)
    go_ret
    exact ⟨_,rfl,λ hb=>by simp at hb;try omega,hbw⟩
  ·have h1':¬ (i:Int)<(ops.length:Int):=by omega
   have HF:Hid (0<=r->sizK ops<=60000):=λ h0=>by
    have h:=hall.out h0
    rw [List.take_of_length_le (by omega)] at h
    omega
   by_cases h4:ops.length<=200
   ·have h4':(ops.length:Int)<=200:=by omega
    have h2':(i:Int)<400:=by omega
    by_cases h3:0<=r
    ·go_wp2_with (fail)
     go_ret
     exact ⟨_,rfl,λ hb=>⟨h4,HF.out h3⟩,hbw⟩
    ·go_wp2_with (fail)
     go_ret
     exact ⟨_,rfl,λ hb=>by simp at hb;try omega,hbw⟩
   ·have h4':¬ (ops.length:Int)<=200:=by omega
    by_cases h2:i<400
    ·have h2':(i:Int)<400:=by omega
     go_wp2_with (fail)
     go_ret
     exact ⟨_,rfl,λ hb=>by simp at hb;try omega,hbw⟩
    ·have h2':¬ (i:Int)<400:=by omega
     go_wp2_with (fail)
     go_ret
     exact ⟨_,rfl,λ hb=>by simp at hb;try omega,hbw⟩
section
open Go.ChangeShapes Go.WideShapes
variable {H:Type} {enc:TypeId × Value->H} {P:Program} {w:World} {base:Nat} {spare:Nat->Bool} {held:Bool}
theorem i64_wfK {n:Int} (h:(Lit.int .i64 n).wf=true):I64 n:=by
 simp only [Lit.wf,Bool.and_eq_true,decide_eq_true_eq] at h
 exact ⟨h.1,h.2⟩
theorem slice_kops {t e:TypeId} {gs:Array Field} {fuel:Nat} {v:Value} {y:DataW H × List MemPlace} (ht:P.underlying t=some (.slice e)) (he:P.underlying e=some (.struct gs)) (hC:P.cellsOf e=6)
  {g0 g1 g2 g3 g4 g5:Field} (h0:gs[0]? = some g0) (h1:gs[1]? = some g1) (h2:gs[2]? = some g2) (h3:gs[3]? = some g3) (h4:gs[4]? = some g4) (h5:gs[5]? = some g5) (o0:g0.offset=0) (o1:g1.offset=1) (o2:g2.offset=2) (o3:g3.offset=3) (o4:g4.offset=4) (o5:g5.offset=5)
  (c0:P.cellsOf g0.type=1) (c1:P.cellsOf g1.type=1) (c2:P.cellsOf g2.type=1) (c3:P.cellsOf g3.type=1) (c4:P.cellsOf g4.type=1) (c5:P.cellsOf g5.type=1)
  (t0:P.underlying g0.type=some (.int .i64)) (t1:P.underlying g1.type=some (.int .i64)) (t2:P.underlying g2.type=some (.int .i64)) (t3:P.underlying g3.type=some .string) (t4:P.underlying g4.type=some .string) (t5:P.underlying g5.type=some .string)
  (h:DataW.trod enc P w base spare held fuel t [v]=some y):∃ l,KopsAt w v l/\∀ o∈l,GoodK o:=by
 suffices hh:∃ l:List KOp,Sl w 6 v l.length (l.flatMap kopCs)/\l.length<=maxLen/\∀ o∈l,(I64 o.ses/\I64 o.seq)/\o.key.length<=maxLen/\o.val.length<=maxLen/\o.old.length<=maxLen by
  obtain ⟨l,q1,q2,q3⟩:=hh
  exact ⟨l,⟨q1,q2,λ o ho=>(q3 o ho).2⟩,λ o ho=>by obtain ⟨⟨a,b⟩,c,d,e⟩:=q3 o ho;unfold maxLen at c d e;exact ⟨a,b,by omega,by omega,by omega⟩⟩
 refine slice_rows (f:=kopCs) (Q:=λ o=>(I64 o.ses/\I64 o.seq)/\o.key.length<=maxLen/\o.val.length<=maxLen/\o.old.length<=maxLen) ht hC (by omega) kopCs_len (λ n' cs x hl hx=>?_) h
 match cs,hl with
 | [a0,a1,a2,a3,a4,a5],_ =>
  obtain ⟨xs,n1,_,_,_,hxl,hf⟩:=DataW.trod_struct he hx
  have hgs:5<gs.size:=(Array.getElem?_eq_some_iff.1 h5).1
  have f0:=hf 0 g0 h0
  have f1:=hf 1 g1 h1
  have f2:=hf 2 g2 h2
  have f3:=hf 3 g3 h3
  have f4:=hf 4 g4 h4
  have f5:=hf 5 g5 h5
  rw [o0,c0,List.getElem?_eq_getElem (by omega)] at f0
  rw [o1,c1,List.getElem?_eq_getElem (by omega)] at f1
  rw [o2,c2,List.getElem?_eq_getElem (by omega)] at f2
  rw [o3,c3,List.getElem?_eq_getElem (by omega)] at f3
  rw [o4,c4,List.getElem?_eq_getElem (by omega)] at f4
  rw [o5,c5,List.getElem?_eq_getElem (by omega)] at f5
  obtain ⟨z0,e0,_,b0⟩:=DataW.trod_int t0 f0
  obtain ⟨z1,e1,_,b1⟩:=DataW.trod_int t1 f1
  obtain ⟨z2,e2,_,b2⟩:=DataW.trod_int t2 f2
  obtain ⟨z3,e3,_,b3⟩:=DataW.trod_string t3 f3
  obtain ⟨z4,e4,_,b4⟩:=DataW.trod_string t4 f4
  obtain ⟨z5,e5,_,b5⟩:=DataW.trod_string t5 f5
  simp at e0 e1 e2 e3 e4 e5
  subst e0 e1 e2 e3 e4 e5
  exact ⟨⟨z0,z1,z2,z3.data.toList,z4.data.toList,z5.data.toList⟩,by simp [kopCs],⟨i64_wfK b1,i64_wfK b2⟩,b3,b4,b5⟩
end
end Go.Ev
