/-
  Texts of this claim.
-/
import Derived.Test.YtmfoiaaehkandaaGreatDoorMOGwAlive25
import Derived.Test.YtmfoiaaehkandaaGreatDoorMOGwOnceW
set_option linter.unusedVariables false
set_option linter.unusedSimpArgs false
namespace Go.Ev
open Go.Proofs Go.RowKit
theorem doReg2:doK ((0,[]),1,[(1,⟨0,0,0,0,[]⟩)]) opReg=((0,[],2),((0,[]),2,two ⟨0,0,0,0,[]⟩ ⟨0,0,0,0,[]⟩)):=by rfl
theorem OnceAt.start {ops:List KOp} {w W:World} {bb q:Nat} (h:One (λ _=>False) w.heap.size bb q 2 0 ((0,[]),2,two ⟨0,0,0,0,[]⟩ ⟨0,0,0,0,[]⟩) W) (hq:q<=12) (hb:Below w.heap.size w W) :
  OnceAt ops w W.heap.size bb 12 0 ((0,[]),2,two ⟨0,0,0,0,[]⟩ ⟨0,0,0,0,[]⟩) [] (.slice none 0 0) (.slice none 0 0) (W.alloc (.cells #[.int .i64 0,.int .i64 0,.int .i64 0] 80)):=by
 have hba:Below W.heap.size W (W.alloc (.cells #[.int .i64 0,.int .i64 0,.int .i64 0] 80)):=(Below.refl _ _).alloc (Nat.le_refl _) _
 refine ⟨⟨0,0,0,0,[]⟩,⟨0,0,0,0,[]⟩,OnceK.zero _,⟨((h.new hba).to hq (Nat.le_refl _) (Nat.zero_le _)).less λ k hk=>?_,Blk.new _ _ _,World.ownsRow_nil _ _ _ _,World.ownsRow_nil _ _ _ _,⟨λ k e=>(by cases e),(λ e=>by cases e),(λ e=>by cases e)⟩,hb.trans (hba.mono hb.size)⟩,trivial,λ q hq=>(by cases hq)⟩
 rcases hk with e | e | e | e
 ·cases e
 ·cases e
 ·exact .inr (by subst e;simp)
 ·exact e.elim
theorem Blk.ne_type {w:World} {g g':Nat} {t t':TypeId} {cs cs':Array Value} (h1:Blk w g t cs) (h2:Blk w g' t' cs') (ht:t≠t'):g≠g':=λ e=>by
 subst e
 unfold Blk at h1 h2
 rw [h1] at h2
 simp only [Option.some.injEq,Obj.cells.injEq] at h2
 exact ht h2.2.1
set_option maxHeartbeats 64000000 in
set_option maxRecDepth 100000 in
theorem once25_walk (A:Option Addr) (n c:Nat) (ops:List KOp) (A2:Option Addr) (n2 c2:Nat) (again:List Int) (w:World) (h:KopsAt w (.slice A n c) ops) (hG:∀ o∈ops,GoodK o) (h2:IntsAt w (.slice A2 n2 c2) again) :
  Calls Tryz.prog 6 #[.slice A n c,.slice A2 n2 c2] w (TrueB w):=by
 have HAl:Hid (∀ W,Calls Tryz.prog 21 #[] W (TrueB W)):=λ W=>alive25 W
 have HF:=Hdz (few_any A n c ops w h)
 have hn:n=ops.length:=by obtain ⟨⟨_,_,e,_⟩,_⟩:=h;cases e;rfl
 subst hn
 have hn2:n2=again.length:=by obtain ⟨⟨_,_,e,_⟩,_⟩:=h2;cases e;rfl
 subst hn2
 have HA:=Hdz h
 have HG2:=Hdz h2
 have HGd:=Hdz hG
 have hml:ops.length<=9223372036854775807:=by have:=h.2.1;unfold maxLen at this;exact this
 have hml2:again.length<=9223372036854775807:=by have:=h2.2;unfold maxLen at this;exact this
 clear h hG h2
 go_enter Tryz.func6,Tryz.ntmps6
 go_upto_region 1 with fail
 go_cut [29] from 22 to 29 (λ s29 wx=>∃ q:Bool,s29=.bool q/\Hid (q=false->(ops.length<=200/\sizK ops<=60000)/\again.length<=200)/\Hid (Below w.heap.size w wx))
 case first =>
  as_aux_lemma =>
   go_wp2_with (fail)
   go_must (refine HF.out.mono ?_)
   rintro e w1 ⟨bl,rfl,hfew,hb1⟩
   have HB1:=Hdz hb1
   have HFew:=Hdz hfew
   clear hb1 hfew
   cases bl
   case false =>
    go_wp2_with (fail)
    go_meet
    exact ⟨true,rfl,(λ e=>by cases e),HB1.out⟩
   case true =>
    have hcs:(200:Int)<(again.length:Int)\/¬ (200:Int)<(again.length:Int):=by omega
    rcases hcs with d0 | d0
    all_goals
     go_wp2_with (fail)
     go_meet
     first | exact ⟨true,rfl,(λ e=>by cases e),HB1.out⟩ | exact ⟨_,rfl,(λ e=>⟨HFew.out (by first | rfl | trivial),by simp at e;omega⟩),HB1.out⟩
 case rest =>
  obtain ⟨q,rfl,hq,HB1⟩:=hcut
  obtain ⟨w1,rfl⟩:∃ we,we=wc:=⟨_,rfl⟩
  cases q
  case true =>
   go_wp2_with (fail)
   go_must (refine (HAl.out _).mono ?_)
   rintro e w2 ⟨rfl,hb2⟩
   have HB2:=Hdz (HB1.out.trans (hb2.mono HB1.out.size))
   clear hb2
   go_wp2_with (fail)
   go_ret
   exact ⟨rfl,HB2.out⟩
  case false =>
  obtain ⟨⟨hf1,hf2⟩,ha⟩:=hq.out rfl
  have HFew:=Hdz (Anz hf1 (Anz hf2 ha))
  clear hq hf1 hf2 ha
  go_wp2_with (fail)
  go_must (refine (begin25 _).mono ?_)
  rintro e w2 ⟨bb,u,rfl,hS,hu,hb2⟩
  obtain ⟨Au,cu,rfl,-⟩:=Sl.of_own hu
  have HO2:Hid (One (λ _=>False) w.heap.size bb 2 0 0 ((0,[]),0,[]) w2):=⟨_,hS,RunK.zero,λ k e=>Nat.le_trans HB1.out.size e,λ k e=>e.elim⟩
  have HB2:=Hdz (HB1.out.trans (hb2.mono HB1.out.size))
  have hd:=HO2.out.do opReg goodReg (by omega) (by omega) (by simp [opReg]) HB2.out.size
  rw [doReg] at hd
  have HD:=Hdz hd
  clear hS hu hb2 hd
  go_wp2_with (fail)
  go_must (refine HD.out.mono ?_)
  rintro e w3 ⟨rfl,hO3,-,hb3,-⟩
  have HB3:=Hdz (HB2.out.trans hb3)
  have hd:=hO3.do opReg goodReg (by omega) (by omega) (by simp [opReg]) HB3.out.size
  rw [doReg2] at hd
  have HD3:=Hdz hd
  clear hO3 hb3 hd
  go_wp2_with (fail)
  go_must (refine HD3.out.mono ?_)
  rintro e w4 ⟨rfl,hO4,-,hb4,-⟩
  have HB4:=Hdz (HB3.out.trans hb4)
  have HW4:=Hdz (OnceAt.start (ops:=ops) hO4 (by omega) HB4.out)
  obtain ⟨g10,hg10⟩:∃ g,w4.heap.size=g:=⟨_,rfl⟩
  rw [hg10] at HW4
  have HG10:Hid (w4.heap.size=g10/\w.heap.size<=g10):=⟨hg10,by rw [<- hg10];exact HB4.out.size⟩
  clear hO4 hb4 hg10
  go_wp2_with (fail)
  rw [HG10.out.1]
  go_loopg [8,9,11] ops.length (λ gk s8 s9 s11 wr=>∃ (i:Nat) (s:KSt) (first:List Rep) (A8 A9:Option Addr) (c8 c9 m8:Nat),s8=.slice A8 m8 c8/\s9=.slice A9 i c9/\s11=.int .i64 (i:Int)/\i+gk=ops.length/\Hid (s.1.2.length=m8)/\Hid (OnceAt ops w g10 bb (12+12*i) i s first (.slice A8 m8 c8) (.slice A9 i c9) wr))
  case atStart=>exact ⟨0,((0,[]),2,two ⟨0,0,0,0,[]⟩ ⟨0,0,0,0,[]⟩),[],none,none,0,0,0,rfl,rfl,rfl,by omega,rfl,HW4.out⟩
  case round =>
   as_aux_lemma =>
    clear HW4 HD HD3 HO2
    obtain ⟨i,s,first,A8,A9,c8,c9,m8,rfl,rfl,rfl,hi,hm8,hO⟩:=hrel
    obtain ⟨wo,rfl⟩:∃ wo,wo=wr:=⟨_,rfl⟩
    obtain ⟨go,rfl⟩:∃ g,g=gk:=⟨_,rfl⟩
    by_cases h1:i<ops.length
    ·have hbw:Below w.heap.size w wo:=by obtain ⟨_,_,_,hM,_⟩:=hO.out;exact hM.bl
     have h1':(i:Int)<(ops.length:Int):=by omega
     have hi0':(0:Int)<=(i:Int):=by omega
     obtain ⟨A',c',e0,_,_,hcl⟩:=HA.out.1
     cases e0
     obtain ⟨blk,off,rfl,hbl,hcell⟩:=hcl (by omega)
     obtain ⟨o,ho⟩:=nmz (ops[i])
     have hgo:GoodK o:=by rw [<- ho];exact HGd.out _ (List.getElem_mem h1)
     have hx:∀ r u,(kopCs o)[r]? = some u->wo.cell? ⟨blk,off+(i*6+r),none⟩=some u:=λ r u hu=>by
      rw [<- ho] at hu
      have hr:r<6:=by have:=(List.getElem?_eq_some_iff.1 hu).1;simpa [kopCs_len] using this
      exact (hbw.cell (p:=⟨blk,off+(i*6+r),none⟩) hbl).trans (hcell _ _ (by rw [flat_at kopCs_len ops i r h1 hr];exact hu))
     have x0:wo.cell? ⟨blk,off+i*6,none⟩=some (.int .i64 o.kind):=hx 0 _ rfl
     have x1:wo.cell? ⟨blk,off+i*6+1,none⟩=some (.int .i64 o.ses):=hx 1 _ rfl
     have x2:wo.cell? ⟨blk,off+i*6+2,none⟩=some (.int .i64 o.seq):=hx 2 _ rfl
     have x3:wo.cell? ⟨blk,off+i*6+3,none⟩=some (strV o.key):=hx 3 _ rfl
     have x4:wo.cell? ⟨blk,off+i*6+4,none⟩=some (strV o.val):=hx 4 _ rfl
     have x5:wo.cell? ⟨blk,off+i*6+5,none⟩=some (strV o.old):=hx 5 _ rfl
     obtain ⟨T,hT⟩:=nmz (tidyO o i)
     have t0:T.kind=tidyN o.kind:=by rw [<- hT];rfl
     have t1:T.ses=((1+i % 2:Nat):Int):=by rw [<- hT];rfl
     have t2:T.seq=((1+i / 2:Nat):Int):=by rw [<- hT];rfl
     have HT3:Hid (T.key=o.key):=by show _=_;rw [<- hT];rfl
     have HT4:Hid (T.val=if T.kind=2 then [] else o.val):=by show _=_;rw [<- hT];rfl
     have HT5:Hid (T.old=if T.kind=3 then o.old else []):=by show _=_;rw [<- hT];rfl
     have HT:=Hdz hT
     have HT12:=Hdz (Anz t1 t2)
     obtain ⟨ib,hib⟩:∃ x:Int,((i % 2:Nat):Int)=x:=⟨_,rfl⟩
     obtain ⟨iq,hiq⟩:∃ x:Int,((i / 2:Nat):Int)=x:=⟨_,rfl⟩
     obtain ⟨a,ha⟩:∃ x:Int,o.kind % 4=x:=⟨_,rfl⟩
     obtain ⟨b,hb⟩:∃ x:Int,a+3=x:=⟨_,rfl⟩
     obtain ⟨c',hc'⟩:∃ x:Int,b % 4=x:=⟨_,rfl⟩
     obtain ⟨d,hd⟩:∃ x:Int,c' % 3=x:=⟨_,rfl⟩
     have f1:bits .and .i64 o.kind 3=a:=by rw [i64_and3,ha]
     have f2:IntKind.i64.wrap (a+3)=b:=by rw [IntWalk.i64_in _ (by omega),hb]
     have f3:bits .and .i64 b 3=c':=by rw [i64_and3,hc']
     have f4:c'.tmod 3=d:=by rw [Int.tmod_eq_emod_of_nonneg (by omega),hd]
     have f5:IntKind.i64.wrap (1+d)=T.kind:=by
      rw [IntWalk.i64_in _ (by omega),t0]
      exact tidyN_steps ha hb hc' hd
     have f6:bits .and .i64 (i:Int) 1=ib:=by rw [i64_and1];omega
     have f7:IntKind.i64.wrap (1+ib)=T.ses:=by rw [IntWalk.i64_in _ (by omega),t1];omega
     have f8:(i:Int).tdiv 2=iq:=by rw [Int.tdiv_eq_ediv_of_nonneg (by omega)];omega
     have f9:IntKind.i64.wrap (1+iq)=T.seq:=by rw [IntWalk.i64_in _ (by omega),t2];omega
     have Ho:=Hdz (Anz ho hgo)
     obtain ⟨g12,hg12⟩:∃ g,wo.heap.size=g:=⟨_,rfl⟩
     obtain ⟨wz,hwz⟩:=nmz (wo.alloc (.cells #[.int .i64 T.kind,.int .i64 T.ses,.int .i64 T.seq,strV o.key,strV o.val,strV o.old] 76))
     have hbz:Below wo.heap.size wo wz:=by rw [<- hwz];exact (Below.refl _ _).alloc (Nat.le_refl _) _
     have bz:Blk wz g12 76 #[.int .i64 T.kind,.int .i64 T.ses,.int .i64 T.seq,strV o.key,strV o.val,strV o.old]:=by rw [<- hwz,<- hg12];exact Blk.new _ _ _
     have f10:IntKind.i64.wrap iq=iq:=IntWalk.i64_in _ (by omega)
     have HGZ:=Hdz (Anz hg12 hwz)
     have HBz:=Hdz bz
     have HZ:=Hdz hbz
     clear hT t0 t1 t2 hib hiq ha hb hc' hd ho hgo hx hcell hcl hbl hbw hg12 hwz hbz bz
     go_upto_if 72 with fail
     rw [HGZ.out.1,HGZ.out.2]
     have z0:=HBz.out.cell 0
     have z5:=HBz.out.frozen 5
     have z6:=HBz.out.cell 5
     clear f1 f2 f3 f4 f5 f6 f7 f8 f9 f10 x0 x1 x2 x3 x4 x5
     go_cut [] from 50 to 73 (λ wx=>Hid (Blk wx g12 76 #[.int .i64 T.kind,.int .i64 T.ses,.int .i64 T.seq,strV o.key,strV o.val,strV T.old])/\Hid (Below wo.heap.size wo wx))
     case first =>
      as_aux_lemma =>
       by_cases hk3:T.kind=3
       ·have e:=HT5.out
        rw [if_pos hk3] at e
        have hkb:(T.kind != 3)=false:=by rw [hk3];rfl
        have HE:=Hdz e
        clear hk3 e
        go_wp2_with (fail)
        go_meet
        rw [HE.out]
        exact ⟨HBz.out,HZ.out⟩
       ·have e:=HT5.out
        rw [if_neg hk3] at e
        have hkb:(T.kind != 3)=true:=bne_iff_ne.2 hk3
        have HE:=Hdz e
        clear hk3 e
        go_wp2_with (fail)
        go_meet
        rw [HE.out]
        exact ⟨HBz.out.set 5 _,HZ.out.trans (((Keeps.refl (λ k=>k=g12) wz).setCell (p:=⟨g12,5,none⟩) (λ _=>rfl) _).below HZ.out.size λ i hi e=>by have:=HGZ.out.1;omega)⟩
     case rest =>
     clear z5 z6
     obtain ⟨HBz1,HZ1⟩:=hcut
     obtain ⟨wy,rfl⟩:∃ we,we=wc:=⟨_,rfl⟩
     have z0:=HBz1.out.cell 0
     have z4:=HBz1.out.frozen 4
     have z7:=HBz1.out.cell 4
     go_upto_if 76 with fail
     go_cut [] from 50 to 77 (λ wx=>Hid (Blk wx g12 76 (kopA T))/\Hid (Below wo.heap.size wo wx))
     case first =>
      as_aux_lemma =>
       by_cases hk3:T.kind=2
       ·have e:=HT4.out
        rw [if_pos hk3] at e
        have hkb:(T.kind==2)=true:=beq_iff_eq.2 hk3
        have HE:=Hdz e
        clear hk3 e
        go_wp2_with (fail)
        go_meet
        unfold kopA
        rw [HE.out,HT3.out]
        exact ⟨HBz1.out.set 4 _,HZ1.out.trans (((Keeps.refl (λ k=>k=g12) wy).setCell (p:=⟨g12,4,none⟩) (λ _=>rfl) _).below HZ1.out.size λ i hi e=>by have:=HGZ.out.1;omega)⟩
       ·have e:=HT4.out
        rw [if_neg hk3] at e
        have hkb:(T.kind==2)=false:=beq_eq_false_iff_ne.2 hk3
        have HE:=Hdz e
        clear hk3 e
        go_wp2_with (fail)
        go_meet
        unfold kopA
        rw [HE.out,HT3.out]
        exact ⟨HBz1.out,HZ1.out⟩
     case rest =>
     obtain ⟨HX5,HB5⟩:=hcut
     obtain ⟨w5,rfl⟩:∃ we,we=wc:=⟨_,rfl⟩
     have HGT:Hid (wo.heap.size=g12):=HGZ.out.1
     clear z0 z4 z7 HBz1 HZ1 HBz HZ HGZ h1' hi0'
     have y0:=HX5.out.cell 0
     have y1:=HX5.out.cell 1
     have y2:=HX5.out.cell 2
     have y3:=HX5.out.cell 3
     have y4:=HX5.out.cell 4
     have y5:=HX5.out.cell 5
     have hTd:Tidy T:=by rw [<- HT.out];exact tidy_ok o i
     have hTg:GoodK T:=by rw [<- HT.out];exact tidy_good Ho.out.2 (by have:=HFew.out.1;omega)
     have HTd:=Hdz (Anz hTd hTg)
     have hV:=valid22_any T w5 hTd hTg.2.2.1 hTg.2.2.2.1 hTg.2.2.2.2
     obtain ⟨vk,hvk⟩:=nmz (validK T)
     rw [hvk] at hV
     have HV:=Hdz hV
     have Hvk:=Hdz hvk
     clear hTd hTg hV hvk
     by_cases hv0:vk=0
     case neg =>
      have hvb:(vk != 0)=true:=bne_iff_ne.2 hv0
      have HV0:=Hdz hv0
      clear hv0
      go_wp2_with (fail)
      go_must (refine HV.out.mono ?_)
      rintro e w6 ⟨rfl,hb6⟩
      obtain ⟨i0,hi0,hz0,hz1,hz2⟩:=info_parts infoRep
      obtain ⟨x,y,hK,hM,hR⟩:=hO.out
      have hM6:=(hM.below HB5.out).below hb6
      have hM7:=hM6.below ((Below.refl _ _).alloc (Nat.le_refl _) (.cells #[.int .i64 0,strV [],.int .i64 0] 72))
      have hlen:=hK.len
      have hown:=hM7.row
      rw [hlen] at hown
      have HM7:=Hdz hM7
      have HKR:=Hdz (Anz hK (Anz hlen hR))
      have hbase:=hM6.bl.size
      have hbase2:=hM7.bl.size
      have hf1:=HFew.out.1
      clear hM hM6 hM7 hK hR hlen
      go_wp2_with (at_builtin;go_must (refine wpList_append_at rfl _ _ 79 rfl w.heap.size 72 i0 _ 3 32 Tryz.underlying79 hi0 hz0 hz1 hz2 rfl (by decide) _ i _ rfl hown ⟨w6.heap.size,0,none⟩ 1 1 (repCs (0,[],0)) rfl rfl (row_rep w6 (0,[],0) _ _ rfl) (by simp [repCs,Value.oneCell']) (by unfold maxLen;omega) (by omega) hbase2 ?_))
      intro v9 w7 own7 hg7 hat7
      have hN:=(HM7.out.append (r:=(0,[],0)) (by rw [HKR.out.2.1];exact own7) hg7 (λ k e=>(hat7 k e).imp id λ h=>by simpa using h)).1
      obtain ⟨A7,c7,rfl,-⟩:=Sl.of_own own7
      have HN:Hid (OnceAt ops w g10 bb (12+12*(i+1)) (i+1) s (first++[(0,[],0)]) (.slice A8 m8 c8) (.slice A7 (i+1) c7) w7):=⟨x,y,HKR.out.1.skip h1 (by rw [Ho.out.1,HT.out,Hvk.out];exact HV0.out) _,hN.to (by omega) (by omega) (by have:=sizK_take ops i h1;omega),HKR.out.2.2⟩
      clear own7 hg7 hat7 hN hown
      go_wp2_with (fail)
      go_roundg (go-1)
      case measure=>omega
      case rel=>exact ⟨i+1,s,_,A8,A7,c8,c7,m8,rfl,rfl,by simp,by omega,hm8.out,HN.out⟩
     case pos =>
     subst hv0
     go_wp2_with (fail)
     go_must (refine HV.out.mono ?_)
     rintro e w6 ⟨rfl,hb6⟩
     obtain ⟨x,y,hK,hM,hR⟩:=hO.out
     have hM6:=(hM.box HB5.out).below hb6
     have X6:=HX5.out.below' hb6
     have hf1:=HFew.out.1
     have hd:=hM6.do T HTd.out.2 (by omega) (by omega) (by have h1:=sizK_take ops i h1;have h2:=sizK_le ops (i+1);have h3:=HFew.out.2.1;have h4:=tidy_val o i;rw [HT.out] at h4;rw [Ho.out.1] at h1;omega)
     have hgo:=hK.go h1 (by omega) (by rw [Ho.out.1,HT.out];exact Hvk.out)
     rw [Ho.out.1,HT.out] at hgo
     obtain ⟨⟨⟨re,rv,rm⟩,s'⟩,hdk⟩:∃ r,doK s T=r:=⟨_,rfl⟩
     rw [hdk] at hd hgo
     have y0:=X6.cell 0
     have y1:=X6.cell 1
     have y2:=X6.cell 2
     have y3:=X6.cell 3
     have y4:=X6.cell 4
     have y5:=X6.cell 5
     have HGo:=Hdz hgo
     have HD:=Hdz hd
     have HX6:=Hdz X6
     have HR:=Hdz hR
     have HK:=Hdz hK
     have HLn:Hid (s.1.2.length<=300):=by obtain ⟨F,-,h2,-⟩:=hM.one;have:=h2.len;show _<=_;omega
     have HLt:Hid (wo.heap.size<=g12/\g12<w5.heap.size):=⟨by have:=HGT.out;omega,HX5.out.lt⟩
     clear hgo hd X6 hR hK hM hM6 hb6 hdk hf1
     go_wp2_with (fail)
     go_must (refine HD.out.mono ?_)
     rintro e w7 ⟨rfl,hM7,-,hk7⟩
     have X7:=HX6.out.keeps hk7 λ e=>e (.inr HLt.out)
     obtain ⟨w8,hw8⟩:=nmz (w7.alloc (.cells #[.int .i64 re,strV rv,.int .i64 rm] 72))
     obtain ⟨g13,hg13⟩:∃ g,w7.heap.size=g:=⟨_,rfl⟩
     have hba:Below w7.heap.size w7 w8:=by rw [<- hw8];exact (Below.refl _ _).alloc (Nat.le_refl _) _
     have b13:Blk w8 g13 72 #[.int .i64 re,strV rv,.int .i64 rm]:=by rw [<- hw8,<- hg13];exact Blk.new _ _ _
     have X8:=X7.below' hba
     have hM8:=hM7.below hba
     have u0:=b13.cell 0
     have u1:=b13.cell 1
     have u2:=b13.cell 2
     have hbA:Below w8.heap.size w8 (w8.alloc (.cells #[.int .i64 re,strV rv,.int .i64 rm] 72)):=(Below.refl _ _).alloc (Nat.le_refl _) _
     have hM9:=hM8.below hbA
     have X9:=X8.below' hbA
     obtain ⟨i0,hi0,hz0,hz1,hz2⟩:=info_parts infoRep
     have hlen:=HK.out.len
     have hown:=hM9.row
     rw [hlen] at hown
     have HM9:=Hdz hM9
     have HX9:=Hdz X9
     have hbase:=hM8.bl.size
     have hbase2:=hM9.bl.size
     have hf1:=HFew.out.1
     have HLen:=Hdz hlen
     have HW8:=Hdz (Anz hw8 hg13)
     clear hM7 hk7 X7 hba b13 X8 hM8 hM9 X9 hlen hw8 hg13 hbA y0 y1 y2 y3 y4 y5
     go_upto_region 26 with fail
     rw [HW8.out.1,HW8.out.2]
     go_wp2_with (at_builtin;go_must (refine wpList_append_at rfl _ _ 79 rfl w.heap.size 72 i0 _ 3 32 Tryz.underlying79 hi0 hz0 hz1 hz2 rfl (by decide) _ i _ rfl hown ⟨w8.heap.size,0,none⟩ 1 1 (repCs (re,rv,rm)) rfl rfl (row_rep w8 (re,rv,rm) _ _ rfl) (by simp [repCs,Value.oneCell']) (by unfold maxLen;omega) (by omega) hbase2 ?_))
     intro v9 w9 own9 hg9 hat9
     obtain ⟨hM9,k9⟩:=HM9.out.append (r:=(re,rv,rm)) (by rw [HLen.out];exact own9) hg9 (λ k e=>(hat9 k e).imp id λ h=>by simpa using h)
     have X9:=HX9.out.keeps k9 λ e=>own_ne HM9.out.row HX9.out (by decide) g12 e rfl
     obtain ⟨A7,c7,rfl,-⟩:=Sl.of_own own9
     obtain ⟨p1,p2,x',y',hK',hx',hy'⟩:=HGo.out
     try simp only at p1 p2 hK'
     have HM10:=Hdz hM9
     have HX10:=Hdz X9
     have HP:=Hdz (Anz p1 (Anz p2 hK'))
     have HXY:=Hdz (Anz hx' hy')
     have y1:w9.cell? ⟨g12,1,none⟩=some (.int .i64 T.ses):=X9.cell 1
     have y2:w9.cell? ⟨g12,2,none⟩=some (.int .i64 T.seq):=X9.cell 2
     have l1:=hM9.last.frozen 1
     have l3:w9.cell? ⟨g10,1,none⟩=some (.int .i64 x.seq):=hM9.last.cell 1
     have l4:w9.cell? ⟨g10,2,none⟩=some (.int .i64 y.seq):=hM9.last.cell 2
     have l2:=hM9.last.frozen 2
     clear own9 hg9 hat9 hM9 k9 X9 p1 p2 hK' hx' hy' hown u0 u1 u2
     go_upto_region 27 with fail
     go_cut [] from 50 to 101 (λ wx=>Hid (Blk wx g10 80 #[.int .i64 0,.int .i64 x'.seq,.int .i64 y'.seq])/\Hid (Keeps (λ k=>k=g10) w9 wx))
     case first =>
      as_aux_lemma =>
       rcases Nat.mod_two_eq_zero_or_one i with hm | hm
       ·have hs:T.ses=1:=by have:=HT12.out.1;rw [hm] at this;exact this
        obtain ⟨e1,e2⟩:=HXY.out.1 hm
        have HE:Hid (x'.seq=T.seq/\y'=y):=⟨by rw [e1,HT12.out.2],e2⟩
        rw [hs] at y1
        clear hs e1 e2 hm
        go_wp2_with (fail)
        go_meet
        rw [HE.out.1,HE.out.2]
        exact ⟨HM10.out.last.set 1 _,(Keeps.refl (λ k=>k=g10) _).setCell (p:=⟨g10,1,none⟩) (λ _=>rfl) _⟩
       ·have hs:T.ses=2:=by have:=HT12.out.1;rw [hm] at this;exact this
        obtain ⟨e1,e2⟩:=HXY.out.2 hm
        have HE:Hid (y'.seq=T.seq/\x'=x):=⟨by rw [e1,HT12.out.2],e2⟩
        rw [hs] at y1
        clear hs e1 e2 hm
        go_wp2_with (fail)
        go_meet
        rw [HE.out.1,HE.out.2]
        exact ⟨HM10.out.last.set 2 _,(Keeps.refl (λ k=>k=g10) _).setCell (p:=⟨g10,2,none⟩) (λ _=>rfl) _⟩
     case rest =>
     obtain ⟨HL11,HK11⟩:=hcut
     obtain ⟨w11,rfl⟩:∃ we,we=wc:=⟨_,rfl⟩
     have hM11:=HM10.out.set HK11.out HL11.out HG10.out.2
     have X11:=HX10.out.keeps HK11.out λ e=>Blk.ne_type HX10.out HM10.out.last (by decide) e
     have y0:=X11.cell 0
     have y1:=X11.cell 1
     have y2:=X11.cell 2
     have y3:=X11.cell 3
     have y4:=X11.cell 4
     have y5:=X11.cell 5
     have hVz:=validK_zero Hvk.out
     have hRk:=rightK_key hVz.1
     have hks:=hRk.2.2.1 (by rcases HTd.out.1.kind with h | h | h<;>omega)
     have HPl:=Hdz (plain_any w.heap.size (.slice A8 m8 c8) s.1.2 T w11 HTd.out.1 hM11.map hM11.bl.size HR.out.1 (by have:=HLn.out;omega) (λ q hq=>by have:=HR.out.2 q hq;omega) hks.1 (by omega) (by omega) (by omega))
     have HM11:=Hdz hM11
     have HKs:=Hdz hks
     clear hM11 X11 hVz hRk hks
     go_wp2_with (fail)
     go_must (refine HPl.out.mono ?_)
     rintro e w12 ⟨u,rfl,hu,hb12,hat⟩
     have hM12:=HM11.out.tree hb12 hu hat
     obtain ⟨A12,c12,rfl,-⟩:=Sl.of_own hu
     have e12:s'.1.2=(chgK (0,s.1.2) T).2.2.2:=by rw [HP.out.2.1];exact chg_snd s.1 T
     rw [<- e12] at hM12 hu
     obtain ⟨m12,hm12⟩:∃ m,s'.1.2.length=m:=⟨_,rfl⟩
     have HI12:Hid (OnceAt ops w g10 bb (12+12*i+3) (i+1) s' (first++[(re,rv,rm)]) (.slice A12 m12 c12) (.slice A7 (i+1) c7) w12):=⟨x',y',HP.out.2.2,by
      rw [<- hm12]
      rw [<- e12] at *
      exact (hM12.less λ _ e=>e.elim).to (Nat.le_refl _) (by omega) (by have h1:=sizK_take ops i h1;have h4:=tidy_val o i;rw [HT.out] at h4;rw [Ho.out.1] at h1;omega),by rw [e12];exact (chg_rising (D:=(0,s.1.2)) HR.out (by have:=HKs.out.2;omega))⟩
     rw [<- e12,hm12]
     have HM12:=Hdz hm12
     clear hu hb12 hat hM12 hm12 e12 y0 y1 y2 y3 y4 y5 HM11 HPl HL11 HK11 HX10 HM10 HX9 HM9 HW8 HD HX6 HV HX5 HB5 HLt HXY
     go_wp2_with (fail)
     obtain ⟨i1,hi1⟩:=nmz (i+1)
     rw [hi1] at HI12
     rw [hi1]
     obtain ⟨f1,hf1⟩:∃ f,first++[(re,rv,rm)]=f:=⟨_,rfl⟩
     rw [hf1] at HI12
     have HI1:=Hdz hi1
     clear hi1 hf1
     go_loopg [15] 3 (λ gk s15 wr=>∃ (k q:Nat),s15=.int .i64 (k:Int)/\k+gk=i+3/\i<=k/\Hid (q+3*gk<=12+12*i1)/\Hid (OnceAt ops w g10 bb q i1 s' f1 (.slice A12 m12 c12) (.slice A7 i1 c7) wr))
     case atStart=>exact ⟨i,_,rfl,by omega,by omega,(by have:=HI1.out;show _<=_;omega),HI12.out⟩
     case round =>
      as_aux_lemma =>
       clear HI12
       obtain ⟨k,q,rfl,hk,hik,hq,hO2⟩:=hrel
       obtain ⟨wi,rfl⟩:∃ wi,wi=wr:=⟨_,rfl⟩
       obtain ⟨gi,rfl⟩:∃ g,g=gk:=⟨_,rfl⟩
       have hw3:IntKind.i64.wrap ((i:Int)+3)=(i:Int)+3:=IntWalk.i64_in _ (by have:=HFew.out.1;omega)
       go_upto_region 30 with fail
       go_cut [115] from 106 to 115 (λ s115 wx=>s115=.bool (decide (k<again.length/\k<i+3))/\wx=wi)
       case first =>
        as_aux_lemma =>
         have hcs:¬ (k:Int)<(again.length:Int)\/((k:Int)<(again.length:Int)/\¬ (k:Int)<(i:Int)+3)\/((k:Int)<(again.length:Int)/\(k:Int)<(i:Int)+3):=by omega
         have HDc:Hid (∀ b:Bool,(b=true↔k<again.length/\k<i+3)->Value.bool b=Value.bool (decide (k<again.length/\k<i+3))):=λ b hb=>by
          congr 1;rw [Bool.eq_iff_iff,hb];simp
         rcases hcs with d4 | ⟨d4,d5⟩ | ⟨d4,d5⟩
         all_goals
          go_wp2_with (fail)
          go_meet
          exact ⟨HDc.out _ (by constructor<;>intro h<;>first | (cases h;done) | (exfalso;omega) | rfl | omega),rfl⟩
       case rest =>
       obtain ⟨rfl,rfl⟩:=hcut
       obtain ⟨wi,rfl⟩:∃ we,we=wc:=⟨_,rfl⟩
       by_cases hlt:k<again.length/\k<i+3
       case neg =>
        rw [decide_eq_false hlt]
        obtain ⟨x2,z2,hK2,hM2,hR2⟩:=hO2.out
        have hql:=hq.out
        have hRg:=hM2.one.rangeD (by have:=HFew.out.1;have:=HI1.out;omega) (by have:=HFew.out.1;have:=HI1.out;omega)
        obtain ⟨pl,hpl⟩:=nmz (s'.1.2)
        have hmm:=HM12.out
        have hln:pl.length<=300:=by obtain ⟨F,-,h2,-⟩:=hM2.one;have:=h2.len;have:=HFew.out.1;have:=HI1.out;rw [<- hpl];omega
        rw [hpl] at hRg hmm
        have HRg:=Hdz hRg
        have HPl:=Hdz hpl
        have HM2:=Hdz hM2
        have HKR:=Hdz (Anz hK2 hR2)
        clear hRg hpl hM2 hK2 hR2 hlt
        go_wp2_with (fail)
        go_must (refine HRg.out.mono ?_)
        rintro e w20 ⟨v20,rfl,hcl,hb20⟩
        obtain ⟨A20,rfl,-,hs20⟩:=hcl.sl
        have hmp:=own_below HM2.out.map hb20
        rw [HPl.out] at hmp
        have hsm:=samePairs_any A20 A12 pl.length pl.length pl.length c12 pl pl w20 hs20 (by rw [hmm] at hmp ⊢;exact Sl.of_own hmp) (by omega) (by omega)
        rw [decide_eq_true rfl] at hsm
        rw [hmm] at hsm ⊢
        have HSm:=Hdz hsm
        have HB20:=Hdz hb20
        clear hcl hs20 hmp hsm hb20
        go_wp2_with (fail)
        go_must (refine HSm.out.mono ?_)
        rintro e w21 ⟨rfl,hb21⟩
        have HN:Hid (OnceAt ops w g10 bb (12+12*i1) i1 s' f1 (.slice A12 m12 c12) (.slice A7 i1 c7) w21):=⟨x2,z2,HKR.out.1,((HM2.out.below HB20.out).below hb21).to (by omega) (Nat.le_refl _) (Nat.le_refl _),HKR.out.2⟩
        clear hb21
        go_wp2_with (fail)
        go_roundg (go-1)
        case measure=>omega
        case rel=>exact ⟨i1,s',f1,A12,A7,c12,c7,m12,rfl,rfl,(by have:=HI1.out;congr 1;omega),(by have:=HI1.out;omega),HM12.out,HN.out⟩
       case pos =>
        rw [decide_eq_true hlt]
        have hbw:Below w.heap.size w wi:=by obtain ⟨_,_,_,hM,_⟩:=hO2.out;exact hM.bl
        obtain ⟨_,_,e0,_,_,hcl⟩:=HG2.out.1.below hbw
        cases e0
        obtain ⟨blk2,off2,rfl,hbl2,hcell2⟩:=hcl (by omega)
        have xz:wi.cell? ⟨blk2,off2+k,none⟩=some (.int .i64 again[k]):=hcell2 _ _ (intsV_get hlt.1)
        have hk0:(0:Int)<=(k:Int):=by omega
        have hkl:(k:Int)<(again.length:Int):=by omega
        have hi1p:1<=i1:=by have:=HI1.out;omega
        have hne:((i1:Int)==0)=false:=beq_eq_false_iff_ne.2 (by omega)
        obtain ⟨rr,hrr⟩:∃ x:Int,(again[k]).tmod (i1:Int)=x:=⟨_,rfl⟩
        have hr1:rr<(i1:Int):=by rw [<- hrr];exact Int.tmod_lt_of_pos _ (by omega)
        have hr2 : -(i1:Int)<rr:=by rw [<- hrr];have:=Int.lt_tmod_of_pos again[k] (b:=(i1:Int)) (by omega);omega
        have hk3:k<i+3:=hlt.2
        have HBw:=Hdz hbw
        clear hcl hcell2 hbl2 hbw
        generalize again[k]'hlt.1=z at *
        clear hlt
        go_upto_if 126 with fail
        go_cut [16] from 106 to 130 (λ s16 wx=>∃ j:Nat,s16=.int .i64 (j:Int)/\j<i1/\wx=wi)
        case first =>
         as_aux_lemma =>
          by_cases hr:rr<0
          ·have hw4:IntKind.i64.wrap (rr+(i1:Int))=rr+(i1:Int):=IntWalk.i64_in _ (by have:=HFew.out.1;have:=HI1.out;omega)
           go_wp2_with (fail)
           go_meet
           exact ⟨(rr+(i1:Int)).toNat,by congr 1;omega,by omega,rfl⟩
          ·go_wp2_with (fail)
           go_meet
           exact ⟨rr.toNat,by congr 1;omega,by omega,rfl⟩
        case rest =>
        obtain ⟨j,rfl,hj,rfl⟩:=hcut
        obtain ⟨wi,rfl⟩:∃ we,we=wc:=⟨_,rfl⟩
        clear hrr hr1 hr2 hne xz hw3
        have hjo:j<ops.length:=by have:=HI1.out;omega
        have hbw:=HBw.out
        have h1':(j:Int)<(ops.length:Int):=by omega
        have hi0':(0:Int)<=(j:Int):=by omega
        obtain ⟨A',c',e0,_,_,hcl⟩:=HA.out.1
        cases e0
        obtain ⟨blk',off',e0,hbl,hcell⟩:=hcl (by omega)
        cases e0
        obtain ⟨p,ho⟩:∃ o,ops[j]=o:=⟨_,rfl⟩
        have hgo:GoodK p:=by rw [<- ho];exact HGd.out _ (List.getElem_mem hjo)
        have hx:∀ r u,(kopCs p)[r]? = some u->wi.cell? ⟨blk,off+(j*6+r),none⟩=some u:=λ r u hu=>by
         rw [<- ho] at hu
         have hr:r<6:=by have:=(List.getElem?_eq_some_iff.1 hu).1;simpa [kopCs_len] using this
         exact (hbw.cell (p:=⟨blk,off+(j*6+r),none⟩) hbl).trans (hcell _ _ (by rw [flat_at kopCs_len ops j r hjo hr];exact hu))
        have x0:wi.cell? ⟨blk,off+j*6,none⟩=some (.int .i64 p.kind):=hx 0 _ rfl
        have x1:wi.cell? ⟨blk,off+j*6+1,none⟩=some (.int .i64 p.ses):=hx 1 _ rfl
        have x2:wi.cell? ⟨blk,off+j*6+2,none⟩=some (.int .i64 p.seq):=hx 2 _ rfl
        have x3:wi.cell? ⟨blk,off+j*6+3,none⟩=some (strV p.key):=hx 3 _ rfl
        have x4:wi.cell? ⟨blk,off+j*6+4,none⟩=some (strV p.val):=hx 4 _ rfl
        have x5:wi.cell? ⟨blk,off+j*6+5,none⟩=some (strV p.old):=hx 5 _ rfl
        obtain ⟨U,hT⟩:∃ T,tidyO p j=T:=⟨_,rfl⟩
        have t0:U.kind=tidyN p.kind:=by rw [<- hT];rfl
        have t1:U.ses=((1+j % 2:Nat):Int):=by rw [<- hT];rfl
        have t2:U.seq=((1+j / 2:Nat):Int):=by rw [<- hT];rfl
        have HU3:Hid (U.key=p.key):=by show _=_;rw [<- hT];rfl
        have HU4:Hid (U.val=if U.kind=2 then [] else p.val):=by show _=_;rw [<- hT];rfl
        have HU5:Hid (U.old=if U.kind=3 then p.old else []):=by show _=_;rw [<- hT];rfl
        have HU:=Hdz hT
        have HU12:=Hdz (Anz t1 t2)
        obtain ⟨ib,hib⟩:∃ x:Int,((j % 2:Nat):Int)=x:=⟨_,rfl⟩
        obtain ⟨iq,hiq⟩:∃ x:Int,((j / 2:Nat):Int)=x:=⟨_,rfl⟩
        obtain ⟨a,ha⟩:∃ x:Int,p.kind % 4=x:=⟨_,rfl⟩
        obtain ⟨b,hb⟩:∃ x:Int,a+3=x:=⟨_,rfl⟩
        obtain ⟨c',hc'⟩:∃ x:Int,b % 4=x:=⟨_,rfl⟩
        obtain ⟨d,hd⟩:∃ x:Int,c' % 3=x:=⟨_,rfl⟩
        have f1:bits .and .i64 p.kind 3=a:=by rw [i64_and3,ha]
        have f2:IntKind.i64.wrap (a+3)=b:=by rw [IntWalk.i64_in _ (by omega),hb]
        have f3:bits .and .i64 b 3=c':=by rw [i64_and3,hc']
        have f4:c'.tmod 3=d:=by rw [Int.tmod_eq_emod_of_nonneg (by omega),hd]
        have f5:IntKind.i64.wrap (1+d)=U.kind:=by
         rw [IntWalk.i64_in _ (by omega),t0]
         exact tidyN_steps ha hb hc' hd
        have f6:bits .and .i64 (j:Int) 1=ib:=by rw [i64_and1];omega
        have f7:IntKind.i64.wrap (1+ib)=U.ses:=by rw [IntWalk.i64_in _ (by omega),t1];omega
        have f8:(j:Int).tdiv 2=iq:=by rw [Int.tdiv_eq_ediv_of_nonneg (by omega)];omega
        have f9:IntKind.i64.wrap (1+iq)=U.seq:=by rw [IntWalk.i64_in _ (by omega),t2];omega
        have Hp:=Hdz (Anz ho hgo)
        obtain ⟨g17,hg12⟩:∃ g,wi.heap.size=g:=⟨_,rfl⟩
        obtain ⟨wz,hwz⟩:=nmz (wi.alloc (.cells #[.int .i64 U.kind,.int .i64 U.ses,.int .i64 U.seq,strV p.key,strV p.val,strV p.old] 76))
        have hbz:Below wi.heap.size wi wz:=by rw [<- hwz];exact (Below.refl _ _).alloc (Nat.le_refl _) _
        have bz:Blk wz g17 76 #[.int .i64 U.kind,.int .i64 U.ses,.int .i64 U.seq,strV p.key,strV p.val,strV p.old]:=by rw [<- hwz,<- hg12];exact Blk.new _ _ _
        have f10:IntKind.i64.wrap iq=iq:=IntWalk.i64_in _ (by omega)
        have HGZ:=Hdz (Anz hg12 hwz)
        have HBz:=Hdz bz
        have HZ:=Hdz hbz
        clear hT t0 t1 t2 hib hiq ha hb hc' hd ho hgo hx hcell hcl hbl hbw hg12 hwz hbz bz
        go_upto_if 153 with fail
        rw [HGZ.out.1,HGZ.out.2]
        have z0:=HBz.out.cell 0
        have z5:=HBz.out.frozen 5
        have z6:=HBz.out.cell 5
        clear f1 f2 f3 f4 f5 f6 f7 f8 f9 f10 x0 x1 x2 x3 x4 x5
        go_cut [] from 106 to 154 (λ wx=>Hid (Blk wx g17 76 #[.int .i64 U.kind,.int .i64 U.ses,.int .i64 U.seq,strV p.key,strV p.val,strV U.old])/\Hid (Below wi.heap.size wi wx))
        case first =>
         as_aux_lemma =>
          by_cases hk3:U.kind=3
          ·have e:=HU5.out
           rw [if_pos hk3] at e
           have hkb:(U.kind != 3)=false:=by rw [hk3];rfl
           have HE:=Hdz e
           clear hk3 e
           go_wp2_with (fail)
           go_meet
           rw [HE.out]
           exact ⟨HBz.out,HZ.out⟩
          ·have e:=HU5.out
           rw [if_neg hk3] at e
           have hkb:(U.kind != 3)=true:=bne_iff_ne.2 hk3
           have HE:=Hdz e
           clear hk3 e
           go_wp2_with (fail)
           go_meet
           rw [HE.out]
           exact ⟨HBz.out.set 5 _,HZ.out.trans (((Keeps.refl (λ k=>k=g17) wz).setCell (p:=⟨g17,5,none⟩) (λ _=>rfl) _).below HZ.out.size λ i hi e=>by have:=HGZ.out.1;omega)⟩
        case rest =>
        clear z5 z6
        obtain ⟨HBz1,HZ1⟩:=hcut
        obtain ⟨wy,rfl⟩:∃ we,we=wc:=⟨_,rfl⟩
        have z0:=HBz1.out.cell 0
        have z4:=HBz1.out.frozen 4
        have z7:=HBz1.out.cell 4
        go_upto_if 157 with fail
        go_cut [] from 106 to 158 (λ wx=>Hid (Blk wx g17 76 (kopA U))/\Hid (Below wi.heap.size wi wx))
        case first =>
         as_aux_lemma =>
          by_cases hk3:U.kind=2
          ·have e:=HU4.out
           rw [if_pos hk3] at e
           have hkb:(U.kind==2)=true:=beq_iff_eq.2 hk3
           have HE:=Hdz e
           clear hk3 e
           go_wp2_with (fail)
           go_meet
           unfold kopA
           rw [HE.out,HU3.out]
           exact ⟨HBz1.out.set 4 _,HZ1.out.trans (((Keeps.refl (λ k=>k=g17) wy).setCell (p:=⟨g17,4,none⟩) (λ _=>rfl) _).below HZ1.out.size λ i hi e=>by have:=HGZ.out.1;omega)⟩
          ·have e:=HU4.out
           rw [if_neg hk3] at e
           have hkb:(U.kind==2)=false:=beq_eq_false_iff_ne.2 hk3
           have HE:=Hdz e
           clear hk3 e
           go_wp2_with (fail)
           go_meet
           unfold kopA
           rw [HE.out,HU3.out]
           exact ⟨HBz1.out,HZ1.out⟩
        case rest =>
        obtain ⟨HX15,HB15⟩:=hcut
        obtain ⟨w15,rfl⟩:∃ we,we=wc:=⟨_,rfl⟩
        have HGU:Hid (wi.heap.size=g17):=HGZ.out.1
        clear z0 z4 z7 HBz1 HZ1 HBz HZ HGZ h1' hi0'
        have y0:=HX15.out.cell 0
        have y1:=HX15.out.cell 1
        have y2:=HX15.out.cell 2
        have y3:=HX15.out.cell 3
        have y4:=HX15.out.cell 4
        have y5:=HX15.out.cell 5
        have hTd:Tidy U:=by rw [<- HU.out];exact tidy_ok p j
        have hTg:GoodK U:=by rw [<- HU.out];exact tidy_good Hp.out.2 (by have:=HFew.out.1;omega)
        have HUd:=Hdz (Anz hTd hTg)
        have hV:=valid22_any U w15 hTd hTg.2.2.1 hTg.2.2.2.1 hTg.2.2.2.2
        obtain ⟨vu,hvk⟩:∃ vk,validK U=vk:=⟨_,rfl⟩
        rw [hvk] at hV
        have HV:=Hdz hV
        have Hvu:=Hdz hvk
        clear hTd hTg hV hvk
        by_cases hv0:vu=0
        case neg =>
         have hvb:(vu != 0)=true:=bne_iff_ne.2 hv0
         clear hv0
         go_wp2_with (fail)
         go_must (refine HV.out.mono ?_)
         rintro e w16 ⟨rfl,hb16⟩
         obtain ⟨x2,z2,hK2,hM2,hR2⟩:=hO2.out
         have HN:Hid (OnceAt ops w g10 bb q i1 s' f1 (.slice A12 m12 c12) (.slice A7 i1 c7) w16):=⟨x2,z2,hK2,(hM2.below HB15.out).below hb16,hR2⟩
         clear hb16 hK2 hM2 hR2
         have hk1:IntKind.i64.wrap ((k:Int)+1)=(k:Int)+1:=IntWalk.i64_in _ (by omega)
         go_wp2_with (fail)
         go_roundg (gi-1)
         case measure=>omega
         case rel=>exact ⟨k+1,q,by simp,by omega,by omega,(by have:=hq.out;show _<=_;omega),HN.out⟩
        case pos =>
        subst hv0
        go_wp2_with (fail)
        go_must (refine HV.out.mono ?_)
        rintro e w16 ⟨rfl,hb16⟩
        obtain ⟨x2,z2,hK2,hM2,hR2⟩:=hO2.out
        have hM16:=(hM2.box HB15.out).below hb16
        have X16:=HX15.out.below' hb16
        have hvz:=(validK_zero Hvu.out).2.1
        have hd:=hM16.do U HUd.out.2 (by have:=HFew.out.1;have:=HI1.out;omega) (by have:=hq.out;have:=HFew.out.1;have:=HI1.out;omega) (by have h3:=HFew.out.2.1;have h2:=sizK_le ops i1;omega)
        have hag:=hK2.again hjo hj (by rw [Hp.out.1,HU.out];exact Hvu.out)
        rw [Hp.out.1,HU.out] at hag
        obtain ⟨⟨⟨se,sv,sm⟩,s2⟩,hdk⟩:∃ r,doK s' U=r:=⟨_,rfl⟩
        rw [hdk] at hd hag
        simp only at hag
        obtain ⟨hs2,zz,hz0,hz1,hzz⟩:=hag
        have y0:=X16.cell 0
        have y1:=X16.cell 1
        have y2:=X16.cell 2
        have y3:=X16.cell 3
        have y4:=X16.cell 4
        have y5:=X16.cell 5
        have HS2:=Hdz hs2
        have HZZ:=Hdz (Anz hz0 (Anz hz1 hzz))
        have HD:=Hdz hd
        have HX16:=Hdz X16
        have HKR:=Hdz (Anz hK2 hR2)
        have HLt:Hid (wi.heap.size<=g17/\g17<w15.heap.size):=⟨by have:=HGU.out;omega,HX15.out.lt⟩
        clear hs2 hz0 hz1 hzz hd X16 hK2 hR2 hM2 hM16 hb16 hdk hvz
        go_wp2_with (fail)
        go_must (refine HD.out.mono ?_)
        rintro e w17 ⟨rfl,-,hM17,hk17⟩
        replace hM17:=hM17 HS2.out
        have X17:=HX16.out.keeps hk17 λ e=>e (.inr HLt.out)
        obtain ⟨w18,hw18⟩:∃ w8,w17.alloc (.cells #[.int .i64 se,strV sv,.int .i64 sm] 72)=w8:=⟨_,rfl⟩
        obtain ⟨g18,hg18⟩:∃ g,w17.heap.size=g:=⟨_,rfl⟩
        have hba:Below w17.heap.size w17 w18:=by rw [<- hw18];exact (Below.refl _ _).alloc (Nat.le_refl _) _
        have b18:Blk w18 g18 72 #[.int .i64 se,strV sv,.int .i64 sm]:=by rw [<- hw18,<- hg18];exact Blk.new _ _ _
        have X18:=X17.below' hba
        have hM18:=hM17.below hba
        have hlen1:=HKR.out.1.len
        have hrow:=Sl.of_own hM18.row
        rw [hlen1] at hrow
        obtain ⟨_,_,e0,_,_,hcl⟩:=hrow
        cases e0
        obtain ⟨blk9,off9,rfl,hbl9,hcell9⟩:=hcl (by omega)
        obtain ⟨fe,fv,fm,hf⟩:∃ a b c,f1[j]? = some (a,b,c):=⟨(f1[j]'(by omega)).1,(f1[j]'(by omega)).2.1,(f1[j]'(by omega)).2.2,List.getElem?_eq_getElem (by omega)⟩
        have hfj:=(List.getElem?_eq_some_iff.1 hf).2
        have hjf:j<f1.length:=by omega
        have r0:w18.cell? ⟨blk9,off9+j*3,none⟩=some (.int .i64 fe):=hcell9 _ _ (by have:=flat_at repCs_len f1 j 0 hjf (by omega);rw [hfj] at this;exact this)
        have r1:w18.cell? ⟨blk9,off9+j*3+1,none⟩=some (strV fv):=hcell9 _ _ (by have:=flat_at repCs_len f1 j 1 hjf (by omega);rw [hfj] at this;exact this)
        have r2:w18.cell? ⟨blk9,off9+j*3+2,none⟩=some (.int .i64 fm):=hcell9 _ _ (by have:=flat_at repCs_len f1 j 2 hjf (by omega);rw [hfj] at this;exact this)
        have u0:w18.cell? ⟨g18,0,none⟩=some (.int .i64 se):=b18.cell 0
        have u1:w18.cell? ⟨g18,1,none⟩=some (strV sv):=b18.cell 1
        have u2:w18.cell? ⟨g18,2,none⟩=some (.int .i64 sm):=b18.cell 2
        have y1:w18.cell? ⟨g17,1,none⟩=some (.int .i64 U.ses):=X18.cell 1
        have y2:w18.cell? ⟨g17,2,none⟩=some (.int .i64 U.seq):=X18.cell 2
        have n1:w18.cell? ⟨g10,1,none⟩=some (.int .i64 x2.seq):=hM18.last.cell 1
        have n2:w18.cell? ⟨g10,2,none⟩=some (.int .i64 z2.seq):=hM18.last.cell 2
        have HM18:=Hdz hM18
        have HFj:=Hdz hf
        have HW18:=Hdz (Anz hw18 hg18)
        have hj0:(0:Int)<=(j:Int):=by omega
        have hji:(j:Int)<(i1:Int):=by omega
        clear hM17 hk17 X17 hba b18 X18 hM18 hlen1 hcl hcell9 hbl9 hf hfj hjf hw18 hg18 y0 y3 y4 y5
        go_upto_region 44 with fail
        rw [HW18.out.1,HW18.out.2]
        go_cut [200] from 106 to 200 (λ s200 wx=>s200=.bool false/\Hid (Below w18.heap.size w18 wx))
        case first =>
         as_aux_lemma =>
          have hw:∃ c:Int,(c=x2.seq\/c=z2.seq)/\(c=zz.seq)/\((U.ses=1/\c=x2.seq)\/(U.ses=2/\c=z2.seq)):=by
           have h1:=HU12.out.1
           rcases Nat.mod_two_eq_zero_or_one j with hm | hm
           ·rw [hm] at h1
            exact ⟨x2.seq,.inl rfl,by rw [HZZ.out.1 hm],.inl ⟨h1,rfl⟩⟩
           ·rw [hm] at h1
            exact ⟨z2.seq,.inr rfl,by rw [HZZ.out.2.1 hm],.inr ⟨h1,rfl⟩⟩
          obtain ⟨c,-,hcz,hcs⟩:=hw
          have hzz:=HZZ.out.2.2
          rw [<- hcz,<- HU12.out.2] at hzz
          rcases hzz with ⟨h1,h2⟩ | ⟨h1,h2⟩
          ·have he:(se,sv,sm)=(fe,fv,fm):=Option.some.inj (h2.symm.trans HFj.out)
           simp only [Prod.mk.injEq] at he
           obtain ⟨rfl,rfl,rfl⟩:=he
           have hcmp:(U.seq==c)=true:=beq_iff_eq.2 h1
           have hlt:decide (U.seq<c)=false:=decide_eq_false (by omega)
           have HH:=Hdz h1
           clear h1 h2 hcz
           rcases hcs with ⟨hs,hc⟩ | ⟨hs,hc⟩
           case inl =>
            as_aux_lemma =>
             rw [hs] at y1
             rw [<- hc] at n1
             clear hs hc
             refine wRz ?_
             try simp only [lAz]
             refine tA 0 ?_;try simp only [lAz]
             refine tA 1 ?_;try simp only [lAz]
             refine tA 2 ?_;try simp only [lAz]
             refine tA 3 ?_;try simp only [lAz]
             refine tA 5 ?_;try simp only [lAz]
             refine rA 4 (v:=?_) (hy:=?hy) ?_;case hy=>(intro w hE;have q0:=hE.cell y2;go_simp;try with_reducible rfl)
             try simp only [lAz]
             refine rA 6 (v:=?_) (hy:=?hy) ?_;case hy=>(intro w hE;have q0:=hE.cell y1;go_simp;try with_reducible rfl)
             try simp only [lAz]
             refine tA 7 ?_;try simp only [lAz]
             refine rA 8 (v:=?_) (hy:=?hy) ?_;case hy=>(intro w hE;have q0:=hE.cell n1;go_simp;try with_reducible rfl)
             try simp only [lAz]
             refine tA 9 ?_;try simp only [lAz]
             try simp only [hcmp]
             try simp only [lAz]
             refine tA 10 ?_;try simp only [lAz]
             refine rA 11 (v:=?_) (hy:=?hy) ?_;case hy=>(intro w hE;have q0:=hE.cell u0;have q1:=hE.cell u1;have q2:=hE.cell u2;go_simp;try with_reducible rfl)
             try simp only [lAz]
             refine tA 12 ?_;try simp only [lAz]
             refine tA 13 ?_;try simp only [lAz]
             refine tA 14 ?_;try simp only [lAz]
             refine rA 15 (v:=?_) (hy:=?hy) ?_;case hy=>(intro w hE;have q0:=hE.cell r0;have q1:=hE.cell r1;have q2:=hE.cell r2;go_simp;try with_reducible rfl)
             try simp only [lAz]
             refine tA 16 ?_;try simp only [lAz]
             try simp only [bne_self_eq_false,Bool.and_self]
             try simp only [lAz]
             refine tA 17 ?_;try simp only [lAz]
             refine tA 18 ?_;try simp only [lAz]
             refine tA 19 ?_;try simp only [lAz]
             refine tA 20 ?_;try simp only [lAz]
             refine tA 22 ?_;try simp only [lAz]
             refine rA 21 (v:=?_) (hy:=?hy) ?_;case hy=>(intro w hE;have q0:=hE.cell y2;go_simp;try with_reducible rfl)
             try simp only [lAz]
             refine rA 23 (v:=?_) (hy:=?hy) ?_;case hy=>(intro w hE;have q0:=hE.cell y1;go_simp;try with_reducible rfl)
             try simp only [lAz]
             refine tA 24 ?_;try simp only [lAz]
             refine rA 25 (v:=?_) (hy:=?hy) ?_;case hy=>(intro w hE;have q0:=hE.cell n1;go_simp;try with_reducible rfl)
             try simp only [lAz]
             refine tA 26 ?_;try simp only [lAz]
             try simp only [hlt]
             try simp only [lAz]
             refine tA 27 ?_;try simp only [lAz]
             refine sA 28 ?_;try simp only [lAz]
             refine sA 29 ?_;try simp only [lAz]
             refine sA 30 ?_;try simp only [lAz]
             refine tA 31 ?_;try simp only [lAz]
             refine tA 32 ?_;try simp only [lAz]
             refine wDz ?_
             first | (go_wp2_with (fail);go_meet) | go_meet
             exact ⟨rfl,(Below.refl w18.heap.size w18).drew⟩
           case inr =>
            as_aux_lemma =>
             rw [hs] at y1
             rw [<- hc] at n2
             clear hs hc
             refine wRz ?_
             try simp only [lAz]
             refine tA 0 ?_;try simp only [lAz]
             refine tA 1 ?_;try simp only [lAz]
             refine tA 2 ?_;try simp only [lAz]
             refine tA 3 ?_;try simp only [lAz]
             refine tA 5 ?_;try simp only [lAz]
             refine rA 4 (v:=?_) (hy:=?hy) ?_;case hy=>(intro w hE;have q0:=hE.cell y2;go_simp;try with_reducible rfl)
             try simp only [lAz]
             refine rA 6 (v:=?_) (hy:=?hy) ?_;case hy=>(intro w hE;have q0:=hE.cell y1;go_simp;try with_reducible rfl)
             try simp only [lAz]
             refine tA 7 ?_;try simp only [lAz]
             refine rA 8 (v:=?_) (hy:=?hy) ?_;case hy=>(intro w hE;have q0:=hE.cell n2;go_simp;try with_reducible rfl)
             try simp only [lAz]
             refine tA 9 ?_;try simp only [lAz]
             try simp only [hcmp]
             try simp only [lAz]
             refine tA 10 ?_;try simp only [lAz]
             refine rA 11 (v:=?_) (hy:=?hy) ?_;case hy=>(intro w hE;have q0:=hE.cell u0;have q1:=hE.cell u1;have q2:=hE.cell u2;go_simp;try with_reducible rfl)
             try simp only [lAz]
             refine tA 12 ?_;try simp only [lAz]
             refine tA 13 ?_;try simp only [lAz]
             refine tA 14 ?_;try simp only [lAz]
             refine rA 15 (v:=?_) (hy:=?hy) ?_;case hy=>(intro w hE;have q0:=hE.cell r0;have q1:=hE.cell r1;have q2:=hE.cell r2;go_simp;try with_reducible rfl)
             try simp only [lAz]
             refine tA 16 ?_;try simp only [lAz]
             try simp only [bne_self_eq_false,Bool.and_self]
             try simp only [lAz]
             refine tA 17 ?_;try simp only [lAz]
             refine tA 18 ?_;try simp only [lAz]
             refine tA 19 ?_;try simp only [lAz]
             refine tA 20 ?_;try simp only [lAz]
             refine tA 22 ?_;try simp only [lAz]
             refine rA 21 (v:=?_) (hy:=?hy) ?_;case hy=>(intro w hE;have q0:=hE.cell y2;go_simp;try with_reducible rfl)
             try simp only [lAz]
             refine rA 23 (v:=?_) (hy:=?hy) ?_;case hy=>(intro w hE;have q0:=hE.cell y1;go_simp;try with_reducible rfl)
             try simp only [lAz]
             refine tA 24 ?_;try simp only [lAz]
             refine rA 25 (v:=?_) (hy:=?hy) ?_;case hy=>(intro w hE;have q0:=hE.cell n2;go_simp;try with_reducible rfl)
             try simp only [lAz]
             refine tA 26 ?_;try simp only [lAz]
             try simp only [hlt]
             try simp only [lAz]
             refine tA 27 ?_;try simp only [lAz]
             refine sA 28 ?_;try simp only [lAz]
             refine sA 29 ?_;try simp only [lAz]
             refine sA 30 ?_;try simp only [lAz]
             refine tA 31 ?_;try simp only [lAz]
             refine tA 32 ?_;try simp only [lAz]
             refine wDz ?_
             first | (go_wp2_with (fail);go_meet) | go_meet
             exact ⟨rfl,(Below.refl w18.heap.size w18).drew⟩
          ·simp only [Prod.mk.injEq] at h2
           obtain ⟨rfl,rfl,rfl⟩:=h2
           have hcmp:(U.seq==c)=false:=beq_eq_false_iff_ne.2 (by omega)
           have hlt:decide (U.seq<c)=true:=decide_eq_true (by omega)
           have HH:=Hdz h1
           clear hcz
           rcases hcs with ⟨hs,hc⟩ | ⟨hs,hc⟩
           case inl =>
            as_aux_lemma =>
             rw [hs] at y1
             rw [<- hc] at n1
             clear hs hc
             refine wRz ?_
             try simp only [lAz]
             refine tA 0 ?_;try simp only [lAz]
             refine tA 1 ?_;try simp only [lAz]
             refine tA 2 ?_;try simp only [lAz]
             refine tA 3 ?_;try simp only [lAz]
             refine tA 5 ?_;try simp only [lAz]
             refine rA 4 (v:=?_) (hy:=?hy) ?_;case hy=>(intro w hE;have q0:=hE.cell y2;go_simp;try with_reducible rfl)
             try simp only [lAz]
             refine rA 6 (v:=?_) (hy:=?hy) ?_;case hy=>(intro w hE;have q0:=hE.cell y1;go_simp;try with_reducible rfl)
             try simp only [lAz]
             refine tA 7 ?_;try simp only [lAz]
             refine rA 8 (v:=?_) (hy:=?hy) ?_;case hy=>(intro w hE;have q0:=hE.cell n1;go_simp;try with_reducible rfl)
             try simp only [lAz]
             refine tA 9 ?_;try simp only [lAz]
             try simp only [hcmp]
             try simp only [lAz]
             refine tA 10 ?_;try simp only [lAz]
             refine sA 11 ?_;try simp only [lAz]
             refine sA 12 ?_;try simp only [lAz]
             refine sA 13 ?_;try simp only [lAz]
             refine sA 14 ?_;try simp only [lAz]
             refine sA 15 ?_;try simp only [lAz]
             refine sA 16 ?_;try simp only [lAz]
             refine tA 17 ?_;try simp only [lAz]
             refine tA 18 ?_;try simp only [lAz]
             refine tA 19 ?_;try simp only [lAz]
             refine tA 20 ?_;try simp only [lAz]
             refine tA 22 ?_;try simp only [lAz]
             refine rA 21 (v:=?_) (hy:=?hy) ?_;case hy=>(intro w hE;have q0:=hE.cell y2;go_simp;try with_reducible rfl)
             try simp only [lAz]
             refine rA 23 (v:=?_) (hy:=?hy) ?_;case hy=>(intro w hE;have q0:=hE.cell y1;go_simp;try with_reducible rfl)
             try simp only [lAz]
             refine tA 24 ?_;try simp only [lAz]
             refine rA 25 (v:=?_) (hy:=?hy) ?_;case hy=>(intro w hE;have q0:=hE.cell n1;go_simp;try with_reducible rfl)
             try simp only [lAz]
             refine tA 26 ?_;try simp only [lAz]
             try simp only [hlt]
             try simp only [lAz]
             refine tA 27 ?_;try simp only [lAz]
             refine tA 28 ?_;try simp only [lAz]
             refine rA 29 (v:=?_) (hy:=?hy) ?_;case hy=>(intro w hE;have q0:=hE.cell u0;go_simp;try with_reducible rfl)
             try simp only [lAz]
             refine tA 30 ?_;try simp only [lAz]
             refine tA 31 ?_;try simp only [lAz]
             refine tA 32 ?_;try simp only [lAz]
             refine wDz ?_
             first | (go_wp2_with (fail);go_meet) | go_meet
             exact ⟨rfl,(Below.refl w18.heap.size w18).drew⟩
           case inr =>
            as_aux_lemma =>
             rw [hs] at y1
             rw [<- hc] at n2
             clear hs hc
             refine wRz ?_
             try simp only [lAz]
             refine tA 0 ?_;try simp only [lAz]
             refine tA 1 ?_;try simp only [lAz]
             refine tA 2 ?_;try simp only [lAz]
             refine tA 3 ?_;try simp only [lAz]
             refine tA 5 ?_;try simp only [lAz]
             refine rA 4 (v:=?_) (hy:=?hy) ?_;case hy=>(intro w hE;have q0:=hE.cell y2;go_simp;try with_reducible rfl)
             try simp only [lAz]
             refine rA 6 (v:=?_) (hy:=?hy) ?_;case hy=>(intro w hE;have q0:=hE.cell y1;go_simp;try with_reducible rfl)
             try simp only [lAz]
             refine tA 7 ?_;try simp only [lAz]
             refine rA 8 (v:=?_) (hy:=?hy) ?_;case hy=>(intro w hE;have q0:=hE.cell n2;go_simp;try with_reducible rfl)
             try simp only [lAz]
             refine tA 9 ?_;try simp only [lAz]
             try simp only [hcmp]
             try simp only [lAz]
             refine tA 10 ?_;try simp only [lAz]
             refine sA 11 ?_;try simp only [lAz]
             refine sA 12 ?_;try simp only [lAz]
             refine sA 13 ?_;try simp only [lAz]
             refine sA 14 ?_;try simp only [lAz]
             refine sA 15 ?_;try simp only [lAz]
             refine sA 16 ?_;try simp only [lAz]
             refine tA 17 ?_;try simp only [lAz]
             refine tA 18 ?_;try simp only [lAz]
             refine tA 19 ?_;try simp only [lAz]
             refine tA 20 ?_;try simp only [lAz]
             refine tA 22 ?_;try simp only [lAz]
             refine rA 21 (v:=?_) (hy:=?hy) ?_;case hy=>(intro w hE;have q0:=hE.cell y2;go_simp;try with_reducible rfl)
             try simp only [lAz]
             refine rA 23 (v:=?_) (hy:=?hy) ?_;case hy=>(intro w hE;have q0:=hE.cell y1;go_simp;try with_reducible rfl)
             try simp only [lAz]
             refine tA 24 ?_;try simp only [lAz]
             refine rA 25 (v:=?_) (hy:=?hy) ?_;case hy=>(intro w hE;have q0:=hE.cell n2;go_simp;try with_reducible rfl)
             try simp only [lAz]
             refine tA 26 ?_;try simp only [lAz]
             try simp only [hlt]
             try simp only [lAz]
             refine tA 27 ?_;try simp only [lAz]
             refine tA 28 ?_;try simp only [lAz]
             refine rA 29 (v:=?_) (hy:=?hy) ?_;case hy=>(intro w hE;have q0:=hE.cell u0;go_simp;try with_reducible rfl)
             try simp only [lAz]
             refine tA 30 ?_;try simp only [lAz]
             refine tA 31 ?_;try simp only [lAz]
             refine tA 32 ?_;try simp only [lAz]
             refine wDz ?_
             first | (go_wp2_with (fail);go_meet) | go_meet
             exact ⟨rfl,(Below.refl w18.heap.size w18).drew⟩
        case rest =>
        obtain ⟨rfl,HB19⟩:=hcut
        obtain ⟨w19,rfl⟩:∃ we,we=wc:=⟨_,rfl⟩
        have HN:Hid (OnceAt ops w g10 bb (q+3) i1 s' f1 (.slice A12 m12 c12) (.slice (some ⟨blk9,off9,none⟩) i1 c7) w19):=⟨x2,z2,HKR.out.1,(HM18.out.below HB19.out).less λ _ e=>e.elim,HKR.out.2⟩
        clear r0 r1 r2 u0 u1 u2 y1 y2 n1 n2
        have hk1:IntKind.i64.wrap ((k:Int)+1)=(k:Int)+1:=IntWalk.i64_in _ (by omega)
        go_wp2_with (fail)
        go_roundg (gi-1)
        case measure=>omega
        case rel=>exact ⟨k+1,q+3,by simp,by omega,by omega,(by have:=hq.out;show _<=_;omega),HN.out⟩
    ·have h1':¬ (i:Int)<(ops.length:Int):=by omega
     have hbw:Below w.heap.size w wo:=by obtain ⟨_,_,_,hM,_⟩:=hO.out;exact hM.bl
     have HB:=Hdz hbw
     clear hbw
     go_wp2_with (fail)
     go_must (refine (HAl.out _).mono ?_)
     rintro e w5 ⟨rfl,hb5⟩
     have HB5:=Hdz (HB.out.trans (hb5.mono HB.out.size))
     clear hb5
     go_wp2_with (fail)
     go_ret
     exact ⟨rfl,HB5.out⟩
end Go.Ev
