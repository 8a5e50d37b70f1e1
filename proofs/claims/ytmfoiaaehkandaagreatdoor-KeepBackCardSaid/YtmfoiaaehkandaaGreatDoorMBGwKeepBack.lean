/-
  Texts of this claim.
-/
import Derived.Test.YtmfoiaaehkandaaGreatDoorMBGwBack19
set_option linter.unusedVariables false
set_option linter.unusedSimpArgs false
namespace Go.Ev
open Go.Proofs Go.RowKit
structure EntsIn (w:World) (v:Value) (l:List LogE):Prop where
 sl:Sl w 4 v l.length (l.flatMap entCs)
 len:l.length<=maxLen
 ok:∀ o∈l,I64 o.idx/\I64 o.term/\I64 o.kind/\o.data.length<=maxLen
 nil:∀ A n c,v=.slice A n c->A=none->c=0
theorem goodE_of {w:World} {v:Value} {l:List LogE} (h:EntsIn w v l) (hd:∀ o∈l,o.data.length<=900):GoodE l:=λ o ho=>⟨⟨(h.ok o ho).1,(h.ok o ho).2.1,(h.ok o ho).2.2.1,by have:=hd o ho;omega⟩,by have:=hd o ho;omega⟩
theorem sl_block {w:World} {z n c:Nat} {A:Option Addr} {xs:List Value} (h:Sl w z (.slice A n c) n xs) (hA:A=none->c=0) (b o:Nat) (e:A=some ⟨b,o,none⟩) (hn:0<n):b<w.heap.size:=by
 obtain ⟨_,_,e0,_,_,hcl⟩:=h
 cases e0
 obtain ⟨_,_,e1,hb,_⟩:=hcl hn
 rw [e] at e1
 cases e1
 exact hb
set_option maxHeartbeats 64000000 in
set_option maxRecDepth 100000 in
theorem back_walk (h0 h1 h2:Int) (A1:Option Addr) (n1 c1:Nat) (fs:List LogE) (A2:Option Addr) (n2 c2:Nat) (ms:List LogE) (fr tq ap:Int) (w:World) (hI0:I64 h0) (hI1:I64 h1) (hI2:I64 h2) (hf:EntsIn w (.slice A1 n1 c1) fs) (hm:EntsIn w (.slice A2 n2 c2) ms) (hfr:I64 fr) (hto:I64 tq) (hap:I64 ap) :
  Calls Tryz.prog 3 #[.agg #[.int .i64 h0,.int .i64 h1,.int .i64 h2],.slice A1 n1 c1,.slice A2 n2 c2,.int .i64 fr,.int .i64 tq,.int .i64 ap] w (TrueB w):=by
 have HAl:Hid (∀ W,Calls Tryz.prog 8 #[] W (TrueB W)):=λ W=>alive19 W
 have hl1:fs.length=n1:=by obtain ⟨_,_,e,_⟩:=hf.sl;cases e;rfl
 have hl2:ms.length=n2:=by obtain ⟨_,_,e,_⟩:=hm.sl;cases e;rfl
 have hsl1:Sl w 4 (.slice A1 n1 c1) n1 (fs.flatMap entCs):=by have:=hf.sl;rw [hl1] at this;exact this
 have hsl2:Sl w 4 (.slice A2 n2 c2) n2 (ms.flatMap entCs):=by have:=hm.sl;rw [hl2] at this;exact this
 have hm1:n1<=9223372036854775807:=by have:=hf.len;unfold maxLen at this;omega
 have hm2:n2<=9223372036854775807:=by have:=hm.len;unfold maxLen at this;omega
 obtain ⟨w0,hw0⟩:=nmz (w.alloc (.cells #[.int .i64 h0,.int .i64 h1,.int .i64 h2] 23))
 have HB0:Hid (Below w.heap.size w w0):=by show Below _ _ _;rw [<- hw0];exact (Below.refl _ _).alloc (Nat.le_refl _) _
 have HBx:Hid (Blk w0 w.heap.size 23 #[.int .i64 h0,.int .i64 h1,.int .i64 h2]):=by show Blk _ _ _ _;rw [<- hw0];exact Blk.new _ _ _
 have HE0:=Hdz hw0
 have HV1:=Hdz (Anz (hsl1.below HB0.out) (Anz hl1 (hf.nil _ _ _ rfl)))
 have HV2:=Hdz (Anz (hsl2.below HB0.out) (Anz hl2 (hm.nil _ _ _ rfl)))
 have HF1:=Hdz hf
 have HF2:=Hdz hm
 have HI:=Hdz (Anz hI0 (Anz hI1 hI2))
 have HSm1:=Hdz λ W (hb:Below w0.heap.size w0 W)=>small16_any A1 n1 c1 fs W ((hsl1.below HB0.out).below hb) hl1 hm1
 have HSm2:=Hdz λ W (hb:Below w0.heap.size w0 W)=>small16_any A2 n2 c2 ms W ((hsl2.below HB0.out).below hb) hl2 hm2
 have HIa:=Hdz (Anz hfr (Anz hto hap))
 clear hI0 hI1 hI2 hf hm hfr hto hap hl1 hl2 hsl1 hsl2 hw0
 go_enter Tryz.func3,Tryz.ntmps3
 go_upto_region 1 with fail
 rw [HE0.out]
 go_cut [45] from 24 to 46 (λ s45 wx=>∃ q:Bool,s45=.bool q/\Hid (q=false->n1<=30/\n2<=30/\1<=ap)/\Hid (Below w0.heap.size w0 wx))
 case first =>
  have hcs:(n1:Int) > 30\/(¬ (n1:Int) > 30/\(n2:Int) > 30)\/(¬ (n1:Int) > 30/\¬ (n2:Int) > 30):=by omega
  rcases hcs with d0 | ⟨d0,d1⟩ | ⟨d0,d1⟩
  case inr.inr =>
   go_wp2_with (fail)
   go_must (refine (HSm1.out _ (Below.refl _ _)).mono ?_)
   rintro e w1 ⟨⟨b,rfl⟩,hb1⟩
   have HB1:=Hdz hb1
   clear hb1
   cases b
   ·go_wp2_with (fail)
    go_meet
    exact ⟨true,rfl,(λ e=>by cases e),HB1.out⟩
   ·go_wp2_with (fail)
    go_must (refine (HSm2.out _ HB1.out).mono ?_)
    rintro e w2 ⟨⟨b,rfl⟩,hb2⟩
    have HB2:=Hdz (HB1.out.trans (hb2.mono HB1.out.size))
    clear hb2
    cases b
    ·go_wp2_with (fail)
     go_meet
     exact ⟨true,rfl,(λ e=>by cases e),HB2.out⟩
    ·by_cases ha:ap<1
     ·go_wp2_with (fail)
      go_meet
      exact ⟨true,rfl,(λ e=>by cases e),HB2.out⟩
     ·go_wp2_with (fail)
      go_meet
      exact ⟨_,rfl,(λ _=>⟨by omega,by omega,by omega⟩),HB2.out⟩
  all_goals
   go_wp2_with (fail)
   go_meet
   exact ⟨true,rfl,(λ e=>by cases e),Below.refl _ _⟩
 case rest =>
 obtain ⟨q,rfl,hq,HB1⟩:=hcut
 obtain ⟨w1,rfl⟩:∃ we,we=wc:=⟨_,rfl⟩
 cases q
 case true =>
  go_wp2_with (fail)
  go_must (refine (HAl.out _).mono ?_)
  rintro e wz ⟨rfl,hbz⟩
  have HBz:=Hdz (HB0.out.trans ((HB1.out.trans (hbz.mono HB1.out.size)).mono HB0.out.size))
  clear hbz
  go_wp2_with (fail)
  go_ret
  exact ⟨rfl,HBz.out⟩
 case false =>
 obtain ⟨g1,g2,g3⟩:=hq.out rfl
 have HAp:=Hdz g3
 clear hq HSm1 HSm2 hm1 hm2 g3
 have HNw:=Hdz (newR_any A1 n1 c1 fs w1 (HV1.out.1.below HB1.out) HV1.out.2.1 HV1.out.2.2 (by omega) λ o ho=>(HF1.out.ok o ho).1)
 go_wp2_with (fail)
 go_must (refine HNw.out.mono ?_)
 rintro e w2 ⟨hp1,hp2,hb2⟩
 have HB2:=Hdz (HB1.out.trans (hb2.mono HB1.out.size))
 have HB12:=Hdz hb2
 clear hb2
 cases hfb:followB 0 0 fs
 case false =>
  obtain rfl:=hp2 hfb
  clear hp1 hp2
  go_wp2_with (fail)
  go_must (refine (HAl.out _).mono ?_)
  rintro e wz ⟨rfl,hbz⟩
  have HBz:=Hdz (HB0.out.trans ((HB2.out.trans (hbz.mono HB2.out.size)).mono HB0.out.size))
  clear hbz
  go_wp2_with (fail)
  go_ret
  exact ⟨rfl,HBz.out⟩
 case true =>
 obtain ⟨x,v,rfl,hx,hxl,hxo⟩:=hp1 hfb
 have HFT:=Hdz (followB_T hfb)
 clear hp1 hp2 hfb
 obtain ⟨Ax,cx,rfl,-⟩:=Sl.of_own hxo
 have HLg:Hid (LogAt w2 x 0 0 Ax n1 cx fs):=⟨hx,Sl.of_own hxo,HV1.out.2.1⟩
 have HAx:Hid (Ax=none->cx=0):=λ e=>by
  subst e
  rcases hxo.2 with ⟨e,_⟩ | ⟨_,_,_,e,_⟩
  ·cases e;rfl
  ·cases e
 have HXl:Hid (w1.heap.size<=x):=hxl
 clear hx hxl hxo
 go_upto_region 4 with fail
 go_cut [73] from 48 to 74 (λ s73 wx=>∃ q:Bool,s73=.bool q/\Hid (q=false->1<=fr/\fr<=(n1:Int)+1/\0<=tq/\tq<fr)/\wx=w2)
 case first =>
  have hw:IntKind.i64.wrap ((n1:Int)+1)=(n1:Int)+1:=IntWalk.i64_in _ (by omega)
  have hcs:fr<1\/(¬ fr<1/\fr > (n1:Int)+1)\/(¬ fr<1/\¬ fr > (n1:Int)+1/\tq<0)\/(¬ fr<1/\¬ fr > (n1:Int)+1/\¬ tq<0/\tq >= fr)\/(¬ fr<1/\¬ fr > (n1:Int)+1/\¬ tq<0/\¬ tq >= fr):=by omega
  rcases hcs with d0 | ⟨d0,d1⟩ | ⟨d0,d1,d2⟩ | ⟨d0,d1,d2,d3⟩ | ⟨d0,d1,d2,d3⟩
  case inr.inr.inr.inr =>
   go_wp2_with (fail)
   go_meet
   exact ⟨_,rfl,(λ _=>⟨by omega,by omega,by omega,by omega⟩),rfl⟩
  all_goals
   go_wp2_with (fail)
   go_meet
   exact ⟨true,rfl,(λ e=>by cases e),rfl⟩
 case rest =>
 obtain ⟨q,rfl,hq,rfl⟩:=hcut
 obtain ⟨w2,rfl⟩:∃ we,we=wc:=⟨_,rfl⟩
 cases q
 case true =>
  go_wp2_with (fail)
  go_must (refine (HAl.out _).mono ?_)
  rintro e wz ⟨rfl,hbz⟩
  have HBz:=Hdz (HB0.out.trans ((HB2.out.trans (hbz.mono HB2.out.size)).mono HB0.out.size))
  clear hbz
  go_wp2_with (fail)
  go_ret
  exact ⟨rfl,HBz.out⟩
 case false =>
 obtain ⟨g4,g5,g6,g7⟩:=hq.out rfl
 obtain ⟨p,hp⟩:∃ p:Nat,fr-1=(p:Int):=⟨(fr-1).toNat,by omega⟩
 obtain ⟨k,rfl⟩:∃ k:Nat,tq=(k:Int):=⟨tq.toNat,by omega⟩
 have hpn:p<=n1:=by omega
 have hkp:k<=p:=by omega
 have hwp:IntKind.i64.wrap (fr-1)=(p:Int):=by rw [IntWalk.i64_in _ (by omega)];exact hp
 have HTm:=Hdz (termR_any x 0 0 Ax n1 cx fs (p:Int) w2 HLg.out ⟨by omega,by omega⟩ (by omega) ⟨by omega,by omega⟩)
 have HMg:=Hdz λ W (hb:Below w2.heap.size w2 W)=>mergeR_any x Ax n1 cx fs p A2 n2 c2 ms W (HLg.out.below hb) HAx.out (by omega) hpn ((HV2.out.1.below HB2.out).below hb) HV2.out.2.1 (by omega) (λ o ho=>(HF2.out.ok o ho).1) (λ h0 b o e=>by have h3:=sl_block HV2.out.1 HV2.out.2.2 b o e h0;have h4:=HXl.out;have h5:=HB1.out.size;omega)
 clear hq g4 g5 g6 g7 hp
 go_wp2_with (fail)
 go_must (refine HTm.out.mono ?_)
 rintro e w3 ⟨rfl,hb3⟩
 have HM3:=Hdz (HMg.out w3 hb3)
 have HB3:=Hdz (HB2.out.trans (hb3.mono HB2.out.size))
 clear hb3
 go_wp2_with (fail)
 go_must (refine HM3.out.mono ?_)
 intro e w4 hmp
 rcases hmp with ⟨b,rfl,hb4⟩ | ⟨a,v,ha,hft,hmt,hq,rfl,hx4,ho4,hk4⟩
 case inl =>
  have HB4:=Hdz (HB3.out.trans (hb4.mono HB3.out.size))
  clear hb4
  cases b
  all_goals
  go_wp2_with (fail)
  go_must (refine (HAl.out _).mono ?_)
  rintro e wz ⟨rfl,hbz⟩
  have HBz:=Hdz (HB0.out.trans ((HB4.out.trans (hbz.mono HB4.out.size)).mono HB0.out.size))
  clear hbz
  go_wp2_with (fail)
  go_ret
  exact ⟨rfl,HBz.out⟩
 case inr =>
 have hl1:=HV1.out.2.1
 have hl2:=HV2.out.2.1
 have hMk:=merged_ok HFT.out hft (by omega) (by omega) hq hmt
 obtain ⟨nL,hnL⟩:=nmz (p+a+(n2-a))
 obtain ⟨L,hL⟩:=nmz (fs.take (p+a)++ms.drop a)
 rw [hnL,hL] at ho4
 obtain ⟨A4,c4,rfl,-⟩:=Sl.of_own ho4
 obtain ⟨_,_,e4,hnc4,_,hcl4⟩:=Sl.of_own ho4
 cases e4
 obtain ⟨bL,oL,rfl,hbL,-⟩:=hcl4 (by omega)
 have hLl:L.length=nL:=by have h3:=hMk.len;rw [hL,hl2,hnL] at h3;exact h3
 have hxw:w0.heap.size<=x:=by have:=HXl.out;have:=HB1.out.size;omega
 have HX4:=Hdz (Anz hx4 (Anz ho4 (Anz hLl (Anz hnc4 (Anz hxw hbL)))))
 have HB4:Hid (Below w0.heap.size w0 w4):=HB3.out.trans (hk4.below HB3.out.size λ j hj e=>by omega)
 have HMk:=Hdz hMk
 have HL:=Hdz (Anz hL hnL)
 have HAq:=Hdz (Anz ha hq)
 have HLl:=Hdz (Anz hl1 hl2)
 have hi0:(((p+1+a:Nat):Int)==0)=false:=beq_eq_false_iff_ne.2 (by omega)
 obtain ⟨ii,hii⟩:∃ ii:Int,((p+1+a:Nat):Int)=ii:=⟨_,rfl⟩
 rw [hii] at hi0 ⊢
 have HIi:=Hdz hii
 have HLt:=Hdz (light19_any w4.heap.size 44 A1 A2 n1 c1 n2 c2 fs ms (w4.alloc (.cells (svOp A1 n1 c1++svOp A2 n2 c2).toArray 44)) (Blk.new _ _ _) ((HV1.out.1.below HB4.out).alloc _) hl1 ((HV2.out.1.below HB4.out).alloc _) hl2 g1 g2)
 have hba:Below w4.heap.size w4 (w4.alloc (.cells (svOp A1 n1 c1++svOp A2 n2 c2).toArray 44)):=(Below.refl _ _).alloc (Nat.le_refl _) _
 have HBa:=Hdz hba
 clear hft hmt hx4 ho4 hk4 hMk hL hnL hLl hxw ha hq hl1 hl2 hii hba hbL hnc4 hcl4 HMg HTm
 go_wp2_with (fail)
 go_must (refine HLt.out.mono ?_)
 rintro e w5 ⟨⟨b,rfl,hd⟩,hb5⟩
 have HB45:Hid (Below w4.heap.size w4 w5):=HBa.out.trans (hb5.mono HBa.out.size)
 have HB5:Hid (Below w0.heap.size w0 w5):=HB4.out.trans (HB45.out.mono HB4.out.size)
 have HD:=Hdz hd
 clear hd hb5
 cases b
 case false =>
  go_wp2_with (fail)
  go_must (refine (HAl.out _).mono ?_)
  rintro e wz ⟨rfl,hbz⟩
  have HBz:=Hdz (HB0.out.trans ((HB5.out.trans (hbz.mono HB5.out.size)).mono HB0.out.size))
  clear hbz
  go_wp2_with (fail)
  go_ret
  exact ⟨rfl,HBz.out⟩
 case true =>
 have HG1:=Hdz (goodE_of HF1.out λ o ho=>HD.out rfl o (List.mem_append_left _ ho))
 have HG2:=Hdz (goodE_of HF2.out λ o ho=>HD.out rfl o (List.mem_append_right _ ho))
 clear HLt HD
 go_wp2_with (fail)
 go_must (refine (begin19 _).mono ?_)
 rintro e w6 ⟨bb,pp,rfl,hHb,hb6⟩
 have HB56:=Hdz hb6
 have hHI:=hHb.hf.initAt (W':=w6.alloc (.cells #[.int .i64 3,.int .i64 5] 3)) ((Below.refl _ _).alloc (Nat.le_refl _) _) (some ⟨w6.heap.size,0,none⟩) 2 2 [3,5] (sl_rows 1 2 [.int .i64 3,.int .i64 5] (Blk.new _ _ _) rfl) rfl (λ b o e=>.inr (by cases e;exact ⟨Nat.le_refl _,by simp⟩)) (validM_two (by omega) (by omega) (by omega))
 have HHI:=Hdz hHI
 clear hHb hb6 hHI
 go_wp2_with (fail)
 go_must (refine HHI.out.mono ?_)
 rintro e w7 ⟨rfl,hk7,hkk7⟩
 have HK57:Hid (Keeps (λ k=>w5.heap.size<=k) w5 w7):=(Keeps.of_below (S:=λ k=>w5.heap.size<=k) HB56.out).go hkk7
 have HB7:Hid (Below w0.heap.size w0 w7):=HB5.out.trans (HK57.out.base HB5.out.size λ k e=>Nat.le_trans HB5.out.size e)
 have hz:=hard0_len
 have hsn:=snB_len (i:=0) (u:=0) (l:=[3,5]) ⟨by omega,by omega⟩ ⟨by omega,by omega⟩ (by simp) (validM_two (a:=3) (b:=5) (by omega) (by omega) (by omega)).i64
 have hFf:=followT_follow (b:=0) HFT.out
 have hS1:=Kn.saveAt (es:=[]) (n:=0) (b:=0) (more:=fs) hk7 (Below.refl _ _) (by omega) 0 0 0 false (some 0) A1 n1 c1 0 (batchB1 hFf (by have:=HLl.out.1;omega) HG1.out) (HV1.out.1.below HB7.out) HLl.out.1 (λ h0 b o e=>.inl (by have h3:=sl_block HV1.out.1 HV1.out.2.2 b o e h0;have h4:=HB5.out.size;show ¬ w5.heap.size<=b;omega)) hz.1 hsn hz.2
 have HS1:=Hdz hS1
 clear hk7 hkk7 hz hsn hFf hS1
 go_wp2_with (fail)
 go_must (refine HS1.out.mono ?_)
 rintro e w8 ⟨rfl,hk8,hkk8⟩
 have hk8':Kn (λ k=>w5.heap.size<=k) bb 1005 (keptP (varsB [0,0,0]) (snB 0 0 [3,5]) (varsB [0])) (n1,logP fs) w8:=by
  have h3:=hk8
  rw [Nat.zero_add] at h3
  exact h3
 have HK58:Hid (Keeps (λ k=>w5.heap.size<=k) w5 w8):=HK57.out.go hkk8
 have HB8:Hid (Below w0.heap.size w0 w8):=HB5.out.trans (HK58.out.base HB5.out.size λ k e=>Nat.le_trans HB5.out.size e)
 have HK8:=Hdz hk8'
 have hx8:Blk w8 x 54 #[.int .i64 0,.int .i64 0,.slice (some ⟨bL,oL,none⟩) nL c4]:=(HX4.out.1.below' HB45.out).keeps HK58.out λ e=>by have h3:=HX4.out.1.lt;have h4:=HB45.out.size;omega
 have ho8:w8.ownsRow w3.heap.size 62 4 (.slice (some ⟨bL,oL,none⟩) nL c4) nL (L.flatMap entCs):=own_keeps (own_below HX4.out.2.1 HB45.out) HK58.out λ k2 e e2=>by have h3:=(HX4.out.2.1.lt k2 e).2;have h4:=HB45.out.size;omega
 have hFL:Follow 0 L:=by have h3:=followT_follow (b:=0) HMk.out.foll;rw [HL.out.1] at h3;exact h3
 have hnL60:nL<=60:=by have h3:=HL.out.2;have h4:=HAq.out;omega
 have HLg8:Hid (∀ W,Keeps (λ k=>w5.heap.size<=k) w8 W->LogAt W x 0 0 (some ⟨bL,oL,none⟩) nL c4 L):=λ W hk=>⟨hx8.keeps hk λ e=>by have h3:=HX4.out.1.lt;have h4:=HB45.out.size;omega,Sl.of_own (own_keeps ho8 hk λ k2 e e2=>by have h3:=(HX4.out.2.1.lt k2 e).2;have h4:=HB45.out.size;omega),HX4.out.2.2.1⟩
 have hbx:Blk w8 w.heap.size 23 #[.int .i64 h0,.int .i64 h1,.int .i64 h2]:=HBx.out.below' HB8.out
 have HBx8:=Hdz hbx
 have HFL:=Hdz (Anz hFL hnL60)
 obtain ⟨q,hq⟩:=nmz (p+a)
 have hqn:q<=nL:=by have h3:=HL.out.2;omega
 have HSl:=Hdz (λ W (hb:Below w8.heap.size w8 W)=>sliceR_any x (some ⟨bL,oL,none⟩) nL c4 L q W (HLg8.out W (Keeps.of_below hb)) (by omega) hFL hqn)
 have hLq:L.drop q=ms.drop a:=by have h3:=HMk.out.cut;rw [HL.out.1,hq] at h3;exact h3
 have hnq:nL-q=n2-a:=by have h3:=HL.out.2;omega
 have hiq:((q+1:Nat):Int)=ii:=by rw [<- HIi.out];omega
 rw [hLq,hnq,hiq] at HSl
 have HQ:=Hdz (Anz hq (Anz hqn (Anz hLq (Anz hnq hiq))))
 have hz:=hard0_len
 have hsn:=snB_len (i:=0) (u:=0) (l:=[3,5]) ⟨by omega,by omega⟩ ⟨by omega,by omega⟩ (by simp) (validM_two (a:=3) (b:=5) (by omega) (by omega) (by omega)).i64
 have hbt:=batchB2 (x:=h0) (y:=h1) (z:=h2) (p:=p) (a:=a) HI.out.1 HI.out.2.1 HI.out.2.2 (followT_follow (b:=0) HFT.out) (by have:=HLl.out.1;omega) HG1.out HG2.out (by have:=HLl.out.2;omega) (by have:=HAq.out.2;have:=HLl.out.1;omega) HMk.out
 rw [HLl.out.1,hq] at hbt
 have HS2:Hid (∀ W (hb:Below w8.heap.size w8 W) A9 c9,W.ownsRow w8.heap.size 62 4 (.slice A9 (n2-a) c9) (n2-a) ((ms.drop a).flatMap entCs)->Calls Tryz.prog 15 #[ptrV bb,.agg #[.int .i64 h0,.int .i64 h1,.int .i64 h2,.bool true,.int .i64 ii,.slice A9 (n2-a) c9,.int .i64 0,.int .i64 0,.slice none 0 0,.bool false,.int .i64 0]] W (LogDone (λ k=>w5.heap.size<=k) bb 2005 (keptP (varsB [h0,h1,h2]) (snB 0 0 [3,5]) (varsB [0])) (n1+(n2-a),logP L) w8)):=λ W hb A9 c9 ho=>by
  have h3:=Kn.saveAt (es:=fs) (n:=n1) (b:=0) (more:=ms.drop a) HK8.out hb (by omega) h0 h1 h2 true (some q) A9 (n2-a) c9 0 hbt (Sl.of_own ho) (by rw [List.length_drop];have:=HLl.out.2;omega) (λ _ b o e=>.inr (by subst e;exact ho.lt b rfl)) hz.1 hsn hz.2
  rw [show fromI 0 (some q)=ii from by rw [<- hiq];show ((0+1+q:Nat):Int)=_;omega,show cutE (some q) fs++ms.drop a=L from by rw [<- HL.out.1,hq];rfl] at h3
  exact h3
 have y0:=hbx.cell 0
 have y1:=hbx.cell 1
 have y2:=hbx.cell 2
 clear hk8 hk8' hkk8 hx8 ho8 hFL hnL60 hbx hq hqn hLq hnq hiq hz hsn hbt
 go_upto_region 13 with fail
 go_cut [136] from 128 to 136 (λ s136 wx=>s136=.bool false/\Hid (Kn (λ k=>w5.heap.size<=k) bb 2005 (keptP (varsB [h0,h1,h2]) (snB 0 0 [3,5]) (varsB [0])) (n1+(n2-a),logP L) wx)/\Hid (Keeps (λ k=>w5.heap.size<=k) w8 wx))
 case first =>
  refine wRz ?_
  try simp only [lAz]
  refine tA 0 ?_;try simp only [lAz]
  refine tA 1 ?_;try simp only [lAz]
  refine tA 2 ?_;try simp only [lAz]
  refine tA 3 ?_;try simp only [lAz]
  refine wpAny_ready (rs:=[4,5]) (by kernel_rfl) (by simp) (aCz (λ K hK=>?_) (aCz (λ K hK=>?_) AllReady.nil))
  focus
   go_simp
   (go_must (refine (HSl.out _ (Below.refl _ w8).drew).mono ?_);rintro e w9 ⟨v9,rfl,ho9,hb9⟩)
   obtain ⟨A9,c9,rfl,-⟩:=Sl.of_own ho9
   have hb9':Below w8.heap.size w8 w9:=((Below.refl _ w8).drew).trans hb9
   have bx9:=HBx8.out.below' hb9'
   have u0:=bx9.cell 0
   have u1:=bx9.cell 1
   have u2:=bx9.cell 2
   have HS29:=Hdz (HS2.out w9 hb9' A9 c9 ho9)
   clear ho9 hb9 hb9' bx9
   go_simp
   apply hK
   clear hK K
   refine rZz 5 λ K hK=>?_;go_simp;apply hK;clear hK K
   refine rZz 6 λ K hK=>?_;go_simp;apply hK;clear hK K
   refine rZz 7 λ K hK=>?_;go_simp
   (go_must (refine HS29.out.mono ?_);rintro e w10 ⟨rfl,hk10,hkk10⟩)
   have HK10:=Hdz hk10
   have HKK10:=Hdz hkk10
   clear hk10 hkk10
   go_simp
   apply hK
   clear hK K
   refine rZz 8 λ K hK=>?_;go_simp;apply hK;clear hK K
   refine wDz ?_
   first | (go_wp2_with (fail);go_meet) | go_meet
   exact ⟨rfl,HK10.out,HKK10.out⟩
  focus
   go_simp
   apply hK
   clear hK K
   refine rZz 4 λ K hK=>?_;go_simp
   (go_must (refine (HSl.out _ (Below.refl _ w8).drew).mono ?_);rintro e w9 ⟨v9,rfl,ho9,hb9⟩)
   obtain ⟨A9,c9,rfl,-⟩:=Sl.of_own ho9
   have hb9':Below w8.heap.size w8 w9:=((Below.refl _ w8).drew).trans hb9
   have bx9:=HBx8.out.below' hb9'
   have u0:=bx9.cell 0
   have u1:=bx9.cell 1
   have u2:=bx9.cell 2
   have HS29:=Hdz (HS2.out w9 hb9' A9 c9 ho9)
   clear ho9 hb9 hb9' bx9
   go_simp
   apply hK
   clear hK K
   refine rZz 6 λ K hK=>?_;go_simp;apply hK;clear hK K
   refine rZz 7 λ K hK=>?_;go_simp
   (go_must (refine HS29.out.mono ?_);rintro e w10 ⟨rfl,hk10,hkk10⟩)
   have HK10:=Hdz hk10
   have HKK10:=Hdz hkk10
   clear hk10 hkk10
   go_simp
   apply hK
   clear hK K
   refine rZz 8 λ K hK=>?_;go_simp;apply hK;clear hK K
   refine wDz ?_
   first | (go_wp2_with (fail);go_meet) | go_meet
   exact ⟨rfl,HK10.out,HKK10.out⟩
 case rest =>
 obtain ⟨rfl,HK10,HK810⟩:=hcut
 obtain ⟨w10,rfl⟩:∃ we,we=wc:=⟨_,rfl⟩
 clear y0 y1 y2 HSl HS2
 have hkL:k<=nL:=by have h3:=HQ.out.2.1;have h4:=HQ.out.1;omega
 obtain ⟨u,hu⟩:=nmz ((termE 0 0 L (k:Int)).1)
 have hCm:=compR_any x bL oL nL c4 L k w10 (HLg8.out w10 HK810.out) (by have:=HFL.out.2;omega) hkL HX4.out.2.2.2.1
 rw [hu] at hCm
 have HCm:=Hdz hCm
 have hul:u=lastTerm 0 (L.take k):=by rw [<- hu];exact termE_last (by rw [HX4.out.2.2.1];exact hkL)
 have HUl:=Hdz (Anz hul hkL)
 clear hCm hu hul hkL
 go_wp2_with (fail)
 go_must (refine HCm.out.mono ?_)
 rintro e w11 ⟨v11,rfl,hx11,ho11,hk11⟩
 obtain ⟨A11,c11,rfl,-⟩:=Sl.of_own ho11
 have q1:=hx11.cell 1
 obtain ⟨w12,hw12⟩:∃ W,(w11.alloc (.cells #[.int .i64 3] 3)).alloc (.cells #[.int .i64 (k:Int),.int .i64 u,.slice (some ⟨w11.heap.size,0,none⟩) 1 1] 37)=W:=⟨_,rfl⟩
 obtain ⟨gsn,hgsn⟩:∃ g,w11.heap.size+1=g:=⟨_,rfl⟩
 have hb12:Below w11.heap.size w11 w12:=by rw [<- hw12];exact ((Below.refl _ _).alloc (Nat.le_refl _) _).alloc (by simp) _
 have bsn:Blk w12 gsn 37 #[.int .i64 (k:Int),.int .i64 u,.slice (some ⟨w11.heap.size,0,none⟩) 1 1]:=by rw [<- hw12,<- hgsn];exact Blk.new' (by simp)
 have b3:Blk w12 w11.heap.size 3 #[.int .i64 3]:=by rw [<- hw12];exact (Blk.new _ _ _).alloc _
 have hk12:=hk11.then hb12
 have hx5:x<w5.heap.size:=by have h3:=HX4.out.1.lt;have h4:=HB45.out.size;omega
 have hKt:=HK10.out.turn hk12 (λ j e=>by subst e;show ¬ w5.heap.size<=j;omega)
 have hsz1:=hk11.size
 have hsz2:=b3.lt
 have hsz3:=bsn.lt
 have hsz0:=HK810.out.size
 have hgL:GoodE L:=by
  intro o ho
  rw [<- HL.out.1] at ho
  rcases List.mem_append.1 ho with h3 | h3
  ·exact HG1.out o (List.mem_of_mem_take h3)
  ·exact HG2.out o (List.mem_of_mem_drop h3)
 have hI3:I64 u:=by
  rw [HUl.out.1]
  exact lastTerm_i64 (λ o ho=>(hgL o (List.mem_of_mem_take ho)).1.term) ⟨by omega,by omega⟩
 have hlen1:(varsB [h0,h1,h2]).length<=200/\(varsB [0]).length<=200:=by
  have h3:=varsB_len [h0,h1,h2] (by
   intro v hv
   simp only [List.mem_cons,List.not_mem_nil,or_false] at hv
   rcases hv with rfl | rfl | rfl
   ·exact HI.out.1
   ·exact HI.out.2.1
   ·exact HI.out.2.2)
  have h4:=hard0_len.2
  simp only [List.length_cons,List.length_nil] at h3
  exact ⟨by omega,h4⟩
 have hsn:=snB_len (i:=0) (u:=0) (l:=[3,5]) ⟨by omega,by omega⟩ ⟨by omega,by omega⟩ (by simp) (validM_two (a:=3) (b:=5) (by omega) (by omega) (by omega)).i64
 have hkLl:k<=L.length:=by rw [HX4.out.2.2.1];exact HUl.out.2
 have hnn:n1+(n2-a)<=100:=by omega
 have hS3:=Kn.snapAt (b:=0) hKt (Below.refl _ _) (by omega) ⟨k,u,[3]⟩ (some ⟨w11.heap.size,0,none⟩) 1 1 ap (batchB3 HFL.out.1 (by rw [HX4.out.2.2.1];exact HFL.out.2) hgL hnn hkLl hI3 HIa.out.2.2) (sl_rows 1 1 [.int .i64 3] b3 rfl) rfl (λ b o e=>.inl (by cases e;exact λ f=>f.2 ⟨by omega,by omega⟩)) hlen1.1 hsn hlen1.2
 rw [show ((0+(⟨k,u,[3]⟩:SnK).k:Nat):Int)=(k:Int) from by show ((0+k:Nat):Int)=_;omega,show apV ap (varsB [0])=varsB [ap] from if_pos (by have:=HAp.out;omega)] at hS3
 have HS3:=Hdz hS3
 have HKp:=Hdz (keptB HI.out.1 HI.out.2.1 HI.out.2.2 (by have h4:=HMk.out.foll;rw [HL.out.1] at h4;exact h4) (by rw [HX4.out.2.2.1];exact HFL.out.2) hgL hkLl HUl.out.1 hI3 HIa.out.2.2)
 have HR11:=Hdz (own_below ho11 hb12)
 have HX12:=Hdz (hx11.below' hb12)
 have HSn:=Hdz bsn
 have HBx12:Hid (Blk w12 w.heap.size 23 #[.int .i64 h0,.int .i64 h1,.int .i64 h2]):=(HBx8.out.keeps HK810.out λ e=>by have h3:=HBx.out.lt;have h4:=HB5.out.size;omega).keeps hk12 λ e=>by have h3:=HBx.out.lt;have h4:=HX4.out.2.2.2.2.1;omega
 have HZ:=Hdz (Anz hx5 (Anz hsz1 (Anz hsz2 (Anz hsz3 hsz0))))
 have HW12:=Hdz (Anz hw12 hgsn)
 have HB12:Hid (Below w0.heap.size w0 w12):=(HB8.out.trans (HK810.out.base HB8.out.size λ k e=>Nat.le_trans HB5.out.size e)).trans ((hk12.below (by have h3:=HB8.out.size;omega) λ j hj e=>by have h4:=HX4.out.2.2.2.2.1;omega))
 clear hx11 ho11 hk11 hb12 bsn b3 hk12 hx5 hKt hsz1 hsz2 hsz3 hsz0 hI3 hgL hlen1 hsn hkLl hnn hS3 hw12 hgsn
 go_upto_region 17 with fail
 rw [HW12.out.1,HW12.out.2]
 have s0:=HSn.out.cell 0
 have s1:=HSn.out.cell 1
 have s2:=HSn.out.cell 2
 clear q1
 go_wp2_with (fail)
 go_must (refine HS3.out.mono ?_)
 rintro e w13 ⟨rfl,hk13,hkk13⟩
 have HLd:=Hdz (Kn.load hk13 (by omega) HKp.out)
 have HK13:=Hdz hkk13
 clear hk13 hkk13 s0 s1 s2
 go_wp2_with (fail)
 go_must (refine HLd.out.mono ?_)
 rintro e w14 ⟨v5,v6,rfl,ho5,ho6,hb14⟩
 have hlk:(L.drop k).length=nL-k:=by rw [List.length_drop,HX4.out.2.2.1]
 rw [hlk] at ho6
 rw [show [(3:Int)].length=1 from rfl] at ho5
 obtain ⟨A5,d5,rfl,-⟩:=Sl.of_own ho5
 obtain ⟨A6,d6,rfl,-⟩:=Sl.of_own ho6
 obtain ⟨w15,hw15⟩:∃ W,w14.alloc (.cells #[.int .i64 h0,.int .i64 h1,.int .i64 h2,.int .i64 (k:Int),.int .i64 u,.slice A5 1 d5,.slice A6 (nL-k) d6,.int .i64 ap] 56)=W:=⟨_,rfl⟩
 obtain ⟨gst,hgst⟩:∃ g,w14.heap.size=g:=⟨_,rfl⟩
 have hb15:Below w14.heap.size w14 w15:=by rw [<- hw15];exact (Below.refl _ _).alloc (Nat.le_refl _) _
 have bst:Blk w15 gst 56 #[.int .i64 h0,.int .i64 h1,.int .i64 h2,.int .i64 (k:Int),.int .i64 u,.slice A5 1 d5,.slice A6 (nL-k) d6,.int .i64 ap]:=by rw [<- hw15,<- hgst];exact Blk.new _ _ _
 have hb1315:Below w13.heap.size w13 w15:=hb14.trans (hb15.mono hb14.size)
 have hZ:=HZ.out
 have HSt:=Hdz bst
 have HR6:Hid (w15.ownsRow w13.heap.size 62 4 (.slice A6 (nL-k) d6) (nL-k) ((L.drop k).flatMap entCs)):=own_below ho6 hb15
 have HR15:Hid (w15.ownsRow w10.heap.size 62 4 (.slice A11 (nL-k) c11) (nL-k) ((L.drop k).flatMap entCs)):=own_below (own_keeps HR11.out HK13.out λ k2 e e2=>by
  have h3:=HR11.out.lt k2 e
  exact e2.2 h3) hb1315
 have HX15:Hid (Blk w15 x 54 #[.int .i64 (k:Int),.int .i64 u,.slice A11 (nL-k) c11]):=(HX12.out.keeps HK13.out λ e=>by have h3:w5.heap.size<=x:=e.1;omega).below' hb1315
 have HSn15:Hid (Blk w15 gsn 37 #[.int .i64 (k:Int),.int .i64 u,.slice (some ⟨w11.heap.size,0,none⟩) 1 1]):=(HSn.out.keeps HK13.out λ e=>e.2 ⟨by have:=HW12.out.2;omega,by omega⟩).below' hb1315
 have HBx15:Hid (Blk w15 w.heap.size 23 #[.int .i64 h0,.int .i64 h1,.int .i64 h2]):=(HBx12.out.keeps HK13.out λ e=>by have h3:w5.heap.size<=w.heap.size:=e.1;have h4:=HBx.out.lt;have h5:=HB5.out.size;omega).below' hb1315
 have HB15:Hid (Below w0.heap.size w0 w15):=(HB12.out.trans (HK13.out.base HB12.out.size λ k e=>Nat.le_trans HB5.out.size e.1)).trans (hb1315.mono (by have h3:=HB12.out.size;have h4:=HK13.out.size;omega))
 have HW15:=Hdz (Anz hw15 hgst)
 have HLk:=Hdz hlk
 clear ho5 ho6 hb14 hb15 bst hb1315 hZ hw15 hgst hlk
 go_upto_region 20 with fail
 rw [HW15.out.1,HW15.out.2]
 refine wRz ?_
 refine rZz 0 λ K hK=>?_;go_simp
 (go_must (refine (HAl.out _).mono ?_);rintro e w16 ⟨rfl,hb16⟩)
 have hb16':Below w15.heap.size w15 w16:=(Below.refl _ w15).drew.trans hb16
 have bst:=HSt.out.below' hb16'
 have bx:=HX15.out.below' hb16'
 have bsn:=HSn15.out.below' hb16'
 have bbx:=HBx15.out.below' hb16'
 have z0:=bst.cell 0
 have z1:=bst.cell 1
 have z2:=bst.cell 2
 have z3:=bst.cell 3
 have z4:=bst.cell 4
 have z5:=bst.cell 5
 have z6:=bst.cell 6
 have z7:=bst.cell 7
 have b0:=bbx.cell 0
 have b1:=bbx.cell 1
 have b2:=bbx.cell 2
 have s1:=bsn.cell 1
 have q2:=bx.cell 2
 have HSE:=Hdz (sameEnt_ok A6 A11 (nL-k) d6 c11 (L.drop k) w16 (Sl.of_own (own_below HR6.out hb16')) (Sl.of_own (own_below HR15.out hb16')) HLk.out (by have:=HFL.out.2;omega))
 have HB16:Hid (Below w.heap.size w w16):=HB0.out.trans ((HB15.out.trans (hb16'.mono HB15.out.size)).mono HB0.out.size)
 clear hb16 hb16' bst bx bsn bbx
 go_simp
 apply hK
 clear hK K
 try simp only [lAz]
 refine tA 1 ?_;try simp only [lAz]
 refine tA 2 ?_;try simp only [lAz]
 refine tA 3 ?_;try simp only [lAz]
 try simp only [beq_self_eq_true]
 try simp only [lAz]
 refine tA 4 ?_;try simp only [lAz]
 refine tA 5 ?_;try simp only [lAz]
 refine tA 6 ?_;try simp only [lAz]
 refine rA 7 (v:=?_) (hy:=?hy) ?_;case hy=>(intro w hE;have q0:=hE.cell z0;have q1:=hE.cell z1;have q2:=hE.cell z2;go_simp;try with_reducible rfl)
 try simp only [lAz]
 refine rA 8 (v:=?_) (hy:=?hy) ?_;case hy=>(intro w hE;have q0:=hE.cell b0;have q1:=hE.cell b1;have q2:=hE.cell b2;go_simp;try with_reducible rfl)
 try simp only [lAz]
 refine tA 9 ?_;try simp only [lAz]
 try simp only [beq_self_eq_true,Bool.and_self]
 try simp only [lAz]
 refine tA 10 ?_;try simp only [lAz]
 refine tA 11 ?_;try simp only [lAz]
 refine tA 12 ?_;try simp only [lAz]
 refine tA 13 ?_;try simp only [lAz]
 refine rA 14 (v:=?_) (hy:=?hy) ?_;case hy=>(intro w hE;have q0:=hE.cell z3;go_simp;try with_reducible rfl)
 try simp only [lAz]
 refine tA 15 ?_;try simp only [lAz]
 refine tA 16 ?_;try simp only [lAz]
 try simp only [beq_self_eq_true,Bool.and_self]
 try simp only [lAz]
 refine tA 17 ?_;try simp only [lAz]
 refine tA 18 ?_;try simp only [lAz]
 refine tA 19 ?_;try simp only [lAz]
 refine tA 20 ?_;try simp only [lAz]
 refine tA 22 ?_;try simp only [lAz]
 refine rA 21 (v:=?_) (hy:=?hy) ?_;case hy=>(intro w hE;have q0:=hE.cell z4;go_simp;try with_reducible rfl)
 try simp only [lAz]
 refine rA 23 (v:=?_) (hy:=?hy) ?_;case hy=>(intro w hE;have q0:=hE.cell s1;go_simp;try with_reducible rfl)
 try simp only [lAz]
 refine tA 24 ?_;try simp only [lAz]
 try simp only [beq_self_eq_true,Bool.and_self]
 try simp only [lAz]
 refine tA 25 ?_;try simp only [lAz]
 refine tA 26 ?_;try simp only [lAz]
 refine tA 27 ?_;try simp only [lAz]
 refine tA 28 ?_;try simp only [lAz]
 refine rA 29 (v:=?_) (hy:=?hy) ?_;case hy=>(intro w hE;have q0:=hE.cell z5;go_simp;try with_reducible rfl)
 try simp only [lAz]
 refine tA 30 ?_;try simp only [lAz]
 refine tA 31 ?_;try simp only [lAz]
 try simp only [beq_self_eq_true,Bool.and_self]
 try simp only [lAz]
 refine tA 32 ?_;try simp only [lAz]
 refine tA 33 ?_;try simp only [lAz]
 refine tA 34 ?_;try simp only [lAz]
 refine rA 35 (v:=?_) (hy:=?hy) ?_;case hy=>(intro w hE;have q0:=hE.cell z7;go_simp;try with_reducible rfl)
 try simp only [lAz]
 refine tA 36 ?_;try simp only [lAz]
 refine tA 37 ?_;try simp only [lAz]
 try simp only [beq_self_eq_true,Bool.and_self]
 try simp only [lAz]
 refine tA 38 ?_;try simp only [lAz]
 refine tA 39 ?_;try simp only [lAz]
 refine tA 40 ?_;try simp only [lAz]
 refine tA 42 ?_;try simp only [lAz]
 refine tA 43 ?_;try simp only [lAz]
 refine tA 44 ?_;try simp only [lAz]
 refine rA 41 (v:=?_) (hy:=?hy) ?_;case hy=>(intro w hE;have q0:=hE.cell z6;go_simp;try with_reducible rfl)
 try simp only [lAz]
 refine rA 45 (v:=?_) (hy:=?hy) ?_;case hy=>(intro w hE;have q0:=hE.cell q2;go_simp;try with_reducible rfl)
 try simp only [lAz]
 refine rZz 46 λ K hK=>?_;refine if_on rfl ?_
 go_simp
 (go_must (refine HSE.out.mono ?_);rintro e w17 ⟨rfl,hb17⟩)
 have HB17:Hid (Below w.heap.size w w17):=HB16.out.trans (hb17.mono HB16.out.size)
 clear hb17
 go_simp
 apply hK
 clear hK K
 try simp only [lAz]
 refine tA 47 ?_;try simp only [lAz]
 refine rZz 48 λ K hK=>?_;go_simp;apply hK;clear hK K
 refine wDz ?_
 go_wp2_with (fail)
 go_ret
 exact ⟨rfl,HB17.out⟩
end Go.Ev
