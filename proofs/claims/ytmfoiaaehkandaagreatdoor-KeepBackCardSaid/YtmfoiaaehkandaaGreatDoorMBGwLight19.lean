/-
  Texts of this claim.
-/
import Derived.Test.YtmfoiaaehkandaaGreatDoorMBGwKeepLog
set_option linter.unusedVariables false
set_option linter.unusedSimpArgs false
set_option maxHeartbeats 16000000
set_option maxRecDepth 100000
namespace Go.Ev
open Go.Proofs Go.RowKit
theorem ent_cells {w:World} {A:Option Addr} {n c:Nat} {l:List LogE} (h:Sl w 4 (.slice A n c) n (l.flatMap entCs)) {i:Nat} (hi:i<n) (hiL:i<l.length):∃ blk off,A=some ⟨blk,off,none⟩/\blk<w.heap.size/\w.cell? ⟨blk,off+i*4,none⟩=some (.int .i64 l[i].idx)/\w.cell? ⟨blk,off+i*4+1,none⟩=some (.int .i64 l[i].term)/\w.cell? ⟨blk,off+i*4+2,none⟩=some (.int .i64 l[i].kind)/\w.cell? ⟨blk,off+i*4+3,none⟩=some (strV l[i].data):=by
 obtain ⟨_,_,e0,_,_,hcl⟩:=h
 cases e0
 obtain ⟨blk,off,rfl,hbl,hcell⟩:=hcl (by omega)
 have hx:∀ r u,(entCs l[i])[r]? = some u->w.cell? ⟨blk,off+(i*4+r),none⟩=some u:=λ r u hu=>by
  have hr:r<4:=by have:=(List.getElem?_eq_some_iff.1 hu).1;simpa [entCs_len] using this
  exact hcell _ _ (by rw [flat_at entCs_len l i r hiL hr];exact hu)
 exact ⟨blk,off,rfl,hbl,hx 0 _ rfl,hx 1 _ rfl,hx 2 _ rfl,hx 3 _ rfl⟩
theorem sameEnt_ok (A B:Option Addr) (n c d:Nat) (l:List LogE) (w:World) (ha:Sl w 4 (.slice A n c) n (l.flatMap entCs)) (hb:Sl w 4 (.slice B n d) n (l.flatMap entCs)) (hl:l.length=n) (hn:n<=1000000) :
  Calls Tryz.prog 19 #[.slice A n c,.slice B n d] w λ e w'=>e=.returned (.bool true)/\Below w.heap.size w w':=by
 have HA:=Hdz ha
 have HB:=Hdz hb
 have HL:=Hdz hl
 have hne:((n:Int) != (n:Int))=false:=by simp
 clear ha hb hl
 go_enter Tryz.func19,Tryz.ntmps19
 go_wp2_with (fail)
 go_loopg [5] n (λ gk s5 wr=>∃ i:Nat,s5=.int .i64 (i:Int)/\i+gk=n/\Hid (Below w.heap.size w wr))
 case atStart=>exact ⟨0,rfl,by omega,Below.refl _ _⟩
 case round =>
  obtain ⟨i,rfl,hi,hbw⟩:=hrel
  obtain ⟨wo,rfl⟩:∃ wo,wo=wr:=⟨_,rfl⟩
  by_cases h1:i<n
  ·have h1':(i:Int)<(n:Int):=by omega
   have hi0:(0:Int)<=(i:Int):=by omega
   have hw1:IntKind.i64.wrap ((i:Int)+1)=(i:Int)+1:=IntWalk.i64_in _ (by omega)
   have hiL:i<l.length:=by have:=HL.out;omega
   obtain ⟨ba,oa,rfl,-,x0,x1,x2,x3⟩:=ent_cells (HA.out.below hbw.out) h1 hiL
   obtain ⟨bb,ob,rfl,-,y0,y1,y2,y3⟩:=ent_cells (HB.out.below hbw.out) h1 hiL
   generalize l[i]=o at *
   clear hiL
   go_wp2_with (fail)
   refine wRz ?_
   try simp only [lAz]
   refine tA 0 ?_;try simp only [lAz]
   refine tA 1 ?_;try simp only [lAz]
   refine tA 2 ?_;try simp only [lAz]
   refine tA 4 ?_;try simp only [lAz]
   refine tA 5 ?_;try simp only [lAz]
   refine tA 6 ?_;try simp only [lAz]
   refine rA 3 (v:=?_) (hy:=?hy) ?_;case hy=>(intro w hE;have q0:=hE.cell x0;have q1:=hE.cell x1;have q2:=hE.cell x2;have q3:=hE.cell x3;go_simp;try with_reducible rfl)
   try simp only [lAz]
   refine rA 7 (v:=?_) (hy:=?hy) ?_;case hy=>(intro w hE;have q0:=hE.cell y0;have q1:=hE.cell y1;have q2:=hE.cell y2;have q3:=hE.cell y3;go_simp;try with_reducible rfl)
   try simp only [lAz]
   refine rZz 8 λ K hK=>?_;go_simp;apply hK;clear hK K
   refine rZz 9 λ K hK=>?_;go_simp;apply hK;clear hK K
   refine wDz ?_
   go_wp2_with (fail)
   go_roundg (gk-1)
   case measure=>omega
   case rel=>exact ⟨i+1,by simp,by omega,hbw.out.drew⟩
  ·have h1':¬ (i:Int)<(n:Int):=by omega
   go_wp2_with (fail)
   go_ret
   exact ⟨rfl,hbw.out⟩
def entD:LogE:=⟨0,0,0,[]⟩
def followB:Int->Int->List LogE->Bool
 | _,_,[]=>true
 | i,u,o :: l=>if i=9223372036854775807\/o.idx≠i+1\/o.term<u then false else followB o.idx o.term l
theorem followB_cons (i u:Int) (o:LogE) (l:List LogE):followB i u (o :: l)=if i=9223372036854775807\/o.idx≠i+1\/o.term<u then false else followB o.idx o.term l:=rfl
theorem followB_T:∀ {l:List LogE} {i u:Int},followB i u l=true->FollowT i u l
 | [],_,_,_=>trivial
 | o :: l,i,u,h=>by
  rw [followB_cons] at h
  split at h
  ·cases h
  ·rename_i h2
   exact ⟨by omega,by omega,followB_T h⟩
theorem followsR_any (i0 u0:Int) (A:Option Addr) (n c:Nat) (l:List LogE) (w:World) (hv:Sl w 4 (.slice A n c) n (l.flatMap entCs)) (hl:l.length=n) (hn:n<=100000) (hok:∀ o∈l,I64 o.idx) (hi0:I64 i0) :
  Calls Tryz.prog 29 #[.int .i64 i0,.int .i64 u0,.slice A n c] w λ e w'=>e=.returned (.bool (followB i0 u0 l))/\Below w.heap.size w w':=by
 have HV:=Hdz hv
 have HL:=Hdz hl
 have HOk:=Hdz hok
 have HI:=Hdz hi0
 clear hv hl hok hi0
 go_enter Tryz.func29,Tryz.ntmps29
 go_wp2_with (fail)
 go_loopg [0,1,7] n (λ gk s0 s1 s7 wr=>∃ (k:Nat) (a b:Int),s0=.int .i64 a/\s1=.int .i64 b/\s7=.int .i64 (k:Int)/\k+gk=n/\Hid (I64 a/\followB i0 u0 l=followB a b (l.drop k))/\Hid (Below w.heap.size w wr))
 case atStart=>exact ⟨0,i0,u0,rfl,rfl,rfl,by omega,⟨HI.out,rfl⟩,Below.refl _ _⟩
 case round =>
  obtain ⟨k,a,b,rfl,rfl,rfl,hk,hf,hB⟩:=hrel
  obtain ⟨wo,rfl⟩:∃ wo,wo=wr:=⟨_,rfl⟩
  by_cases hin:k<n
  ·have h1:(k:Int)<(n:Int):=by omega
   have h0:(0:Int)<=(k:Int):=by omega
   have hiL:k<l.length:=by have:=HL.out;omega
   obtain ⟨blk,off,rfl,hbl,x0,x1,x2,x3⟩:=ent_cells (HV.out.below hB.out) hin hiL
   have hfd:=hf.out
   rw [List.drop_eq_getElem_cons hiL] at hfd
   have hio:=HOk.out _ (List.getElem_mem hiL)
   obtain ⟨o,ho⟩:=nmz (l[k])
   rw [ho] at hfd x0 x1 x2 x3 hio
   obtain ⟨hIa,hfe⟩:=hfd
   obtain ⟨j,hj⟩:=nmz (o.idx)
   obtain ⟨t,ht⟩:∃ j,o.term=j:=⟨_,rfl⟩
   rw [followB_cons,hj,ht] at hfe
   rw [hj] at x0 hio
   rw [ht] at x1
   have HFe:=Hdz hfe
   have HIa:=Hdz hIa
   have HIo:=Hdz hio
   have hw:IntKind.i64.wrap ((k:Int)+1)=(k:Int)+1:=IntWalk.i64_in _ (by omega)
   clear hfe hIa hio ho hj ht hiL hf hbl
   by_cases hm:a=9223372036854775807
   ·have hb:(a==9223372036854775807)=true:=beq_iff_eq.2 hm
    have HR:Hid (followB i0 u0 l=false):=HFe.out.trans (if_pos (.inl hm))
    clear hm
    go_wp2_with (fail)
    go_ret
    exact ⟨by rw [HR.out]<;>rfl,hB.out⟩
   ·have hb:(a==9223372036854775807)=false:=beq_eq_false_iff_ne.2 hm
    have hwa:IntKind.i64.wrap (a+1)=a+1:=IntWalk.i64_in _ (by have:=HIa.out.1;have:=HIa.out.2;omega)
    have HM:=Hdz hm
    clear hm
    by_cases hj:j=a+1
    ·have hne:(j != a+1)=false:=by rw [hj];simp
     by_cases hlt:t<b
     ·have HR:Hid (followB i0 u0 l=false):=HFe.out.trans (if_pos (.inr (.inr hlt)))
      clear hj
      go_wp2_with (fail)
      go_ret
      exact ⟨by rw [HR.out]<;>rfl,hB.out⟩
     ·have HN:Hid (followB i0 u0 l=followB j t (l.drop (k+1))):=HFe.out.trans (if_neg λ e=>by
       rcases e with e | e | e
       ·exact HM.out e
       ·exact e hj
       ·exact hlt e)
      clear hj
      go_wp2_with (fail)
      refine wRz ?_
      try simp only [lAz]
      refine tA 0 ?_;try simp only [lAz]
      refine tA 1 ?_;try simp only [lAz]
      refine tA 2 ?_;try simp only [lAz]
      refine tA 3 ?_;try simp only [lAz]
      refine tA 5 ?_;try simp only [lAz]
      refine tA 6 ?_;try simp only [lAz]
      refine tA 7 ?_;try simp only [lAz]
      refine tA 8 ?_;try simp only [lAz]
      refine rA 4 (v:=?_) (hy:=?hy) ?_;case hy=>(intro w hE;have q0:=hE.cell x0;go_simp;try with_reducible rfl)
      try simp only [lAz]
      refine rA 9 (v:=?_) (hy:=?hy) ?_;case hy=>(intro w hE;have q0:=hE.cell x1;go_simp;try with_reducible rfl)
      try simp only [lAz]
      refine rZz 10 λ K hK=>?_;go_simp;apply hK;clear hK K
      refine rZz 11 λ K hK=>?_;go_simp;apply hK;clear hK K
      refine wDz ?_
      go_wp2_with (fail)
      go_roundg (gk-1)
      case measure=>omega
      case rel=>exact ⟨k+1,j,t,rfl,rfl,by simp,by omega,⟨HIo.out,HN.out⟩,hB.out.drew⟩
    ·have hne:(j != a+1)=true:=bne_iff_ne.2 hj
     have HR:Hid (followB i0 u0 l=false):=HFe.out.trans (if_pos (.inr (.inl hj)))
     clear hj
     go_wp2_with (fail)
     go_ret
     exact ⟨by rw [HR.out]<;>rfl,hB.out⟩
  ·have h1:¬ (k:Int)<(n:Int):=by omega
   have HR:Hid (followB i0 u0 l=true):=by
    have:=hf.out.2
    rw [List.drop_of_length_le (by have:=HL.out;omega)] at this
    exact this
   clear hf
   go_wp2_with (fail)
   go_ret
   exact ⟨by rw [HR.out]<;>rfl,hB.out⟩
def LogAt (W:World) (x:Nat) (base bt:Int) (A:Option Addr) (n c:Nat) (es:List LogE):Prop:=Blk W x 54 #[.int .i64 base,.int .i64 bt,.slice A n c]/\Sl W 4 (.slice A n c) n (es.flatMap entCs)/\es.length=n
theorem LogAt.below {W W':World} {x:Nat} {base bt:Int} {A:Option Addr} {n c:Nat} {es:List LogE} (h:LogAt W x base bt A n c es) (hb:Below W.heap.size W W'):LogAt W' x base bt A n c es:=⟨h.1.below' hb,h.2.1.below hb,h.2.2⟩
def NewRP (l:List LogE) (n:Nat) (w:World) (e:Ending) (w':World):Prop:=
 (followB 0 0 l=true->∃ x v,e=.returned (.tuple #[ptrV x,.int .i64 0])/\Blk w' x 54 #[.int .i64 0,.int .i64 0,v]/\w.heap.size<=x/\w'.ownsRow w.heap.size 62 4 v n (l.flatMap entCs)) ∧
 (followB 0 0 l=false->e=.returned (.tuple #[.pointer none,.int .i64 1]))/\Below w.heap.size w w'
theorem newR_any (A:Option Addr) (n c:Nat) (l:List LogE) (w:World) (hv:Sl w 4 (.slice A n c) n (l.flatMap entCs)) (hl:l.length=n) (hA:A=none->c=0) (hn:n<=100000) (hok:∀ o∈l,I64 o.idx) :
  Calls Tryz.prog 9 #[.int .i64 0,.int .i64 0,.slice A n c] w (NewRP l n w):=by
 obtain ⟨j0,hj,hz0,hz1,hz2⟩:=info_parts infoEnt
 have HF:=Hdz (followsR_any 0 0 A n c l w hv hl hn hok ⟨by omega,by omega⟩)
 have HV:=Hdz (Anz hv hA)
 clear hv hl hok hA
 go_enter Tryz.func9,Tryz.ntmps9
 go_wp2_with (fail)
 go_must (refine HF.out.mono ?_)
 rintro e w1 ⟨rfl,hb1⟩
 have HB1:=Hdz hb1
 clear hb1
 cases hfb:followB 0 0 l
 ·go_wp2_with (fail)
  go_ret2
  exact ⟨λ e=>(by rw [hfb] at e;cases e),λ _=>rfl,HB1.out⟩
 ·have hz:=HB1.out.size
  go_wp2_with (at_builtin;go_must (refine wpList_append_sl rfl _ _ 24 rfl w.heap.size 62 j0 _ 4 40 Tryz.underlying24 hj hz0 hz1 hz2 rfl (by decide) (.slice none 0 0) 0 [] rfl (World.ownsRow_nil _ _ _ _) A n c (l.flatMap entCs) rfl (HV.out.1.below HB1.out) HV.out.2 (entCs_one _) (by unfold maxLen;omega) (by omega) hz ?_))
  intro v w2 own2 hg2
  have HB2:Hid (Below w.heap.size w w2):=HB1.out.trans (((Keeps.refl (λ _=>False) w1).grown hg2 λ k e=>by cases e).below hz λ i hi e=>e)
  try simp only [Nat.zero_add,List.nil_append] at own2
  have HO:=Hdz own2
  obtain ⟨A2,c2,rfl,-⟩:=Sl.of_own own2
  clear own2 hg2
  go_wp2_with (fail)
  go_ret2
  refine ⟨λ _=>⟨w2.heap.size,_,rfl,Blk.new _ _ _,HB2.out.size,HO.out.alloc _⟩,λ e=>(by rw [hfb] at e;cases e),HB2.out.alloc HB2.out.size _⟩
def termE (base bt:Int) (es:List LogE) (i:Int):Int × Bool:=if i=base then (bt,true) else if base<i/\i<=base+(es.length:Int) then ((es.getD (i-base-1).toNat entD).term,true) else (0,false)
def atE (base:Int) (es:List LogE) (i:Int):LogE × Bool:=if base<i/\i<=base+(es.length:Int) then (es.getD (i-base-1).toNat entD,true) else (entD,false)
theorem entRow4 {fn:Func} {p u:Tmp} {tmps:Array Value} {w:World} {x:Value} {o:LogE} {b:Nat} (h:fn.results=#[.cell p 62,.tmp u]) (hp:tmps.getD p undef=ptrV b) (hu:tmps.getD u undef=x) (hb:Blk w b 62 #[.int .i64 o.idx,.int .i64 o.term,.int .i64 o.kind,strV o.data]) :
  (results fn tmps).run Tryz.prog w=.ok (.tuple #[entV o,x]) w:=
 res_row [.int .i64 o.idx,.int .i64 o.term,.int .i64 o.kind,strV o.data] h hp hu (by kernel_rfl) hb
theorem atR_any (x:Nat) (base bt:Int) (A:Option Addr) (n c:Nat) (es:List LogE) (i:Int) (w:World) (h:LogAt w x base bt A n c es) (hb:0<=base/\base<=1000000) (hn:n<=100000) (hi:I64 i) :
  Calls Tryz.prog 30 #[ptrV x,.int .i64 i] w λ e w'=>e=.returned (.tuple #[entV (atE base es i).1,.bool (atE base es i).2])/\Below w.heap.size w w':=by
 have hz:Below w.heap.size w (w.alloc (.cells #[.int .i64 0,.int .i64 0,.int .i64 0,strV []] 62)):=(Below.refl _ _).alloc (Nat.le_refl _) _
 have hL:=h.below hz
 have b0:=hL.1.cell 0
 have b2:=hL.1.cell 2
 have bz:Blk (w.alloc (.cells #[.int .i64 0,.int .i64 0,.int .i64 0,strV []] 62)) w.heap.size 62 #[.int .i64 0,.int .i64 0,.int .i64 0,strV []]:=Blk.new _ _ _
 have HL:=Hdz (Anz hL.2.1 h.2.2)
 have HZ:=Hdz (Anz hz bz)
 have hwb:IntKind.i64.wrap (base+(n:Int))=base+(n:Int):=IntWalk.i64_in _ (by omega)
 have hx:x<w.heap.size:=h.1.lt
 obtain ⟨hb1,hb2⟩:=hb
 clear h hL hz bz
 by_cases h1:i<=base
 ·have HR:Hid (atE base es i=(entD,false)):=if_neg (by omega)
  rw [HR.out]
  go_enter Tryz.func30,Tryz.ntmps30
  go_wp2_with (fail)
  refine wRz ?_
  try simp only [lAz]
  refine tA 0 ?_;try simp only [lAz]
  refine tA 1 ?_;try simp only [lAz]
  refine tA 2 ?_;try simp only [lAz]
  refine tA 3 ?_;try simp only [lAz]
  refine rA 4 (v:=?_) (hy:=?hy) ?_;case hy=>(intro w hE;have q0:=hE.cell b0;go_simp;try with_reducible rfl)
  try simp only [lAz]
  refine tA 5 ?_;try simp only [lAz]
  refine tA 6 ?_;try simp only [lAz]
  refine sA 7 ?_;try simp only [lAz]
  refine sA 8 ?_;try simp only [lAz]
  refine sA 9 ?_;try simp only [lAz]
  refine sA 10 ?_;try simp only [lAz]
  refine sA 11 ?_;try simp only [lAz]
  refine sA 12 ?_;try simp only [lAz]
  refine sA 13 ?_;try simp only [lAz]
  refine sA 14 ?_;try simp only [lAz]
  refine sA 15 ?_;try simp only [lAz]
  refine sA 16 ?_;try simp only [lAz]
  refine sA 17 ?_;try simp only [lAz]
  refine sA 18 ?_;try simp only [lAz]
  refine tA 19 ?_;try simp only [lAz]
  refine wDz ?_
  have z0:=HZ.out.2.cell 0
  have z1:=HZ.out.2.cell 1
  have z2:=HZ.out.2.cell 2
  have z3:=HZ.out.2.cell 3
  have f0:=HZ.out.2.frozen 0
  have f1:=HZ.out.2.frozen 1
  have f2:=HZ.out.2.frozen 2
  have f3:=HZ.out.2.frozen 3
  go_wp2_with (fail)
  refine bodyPost_ret (entRow4 (o:=entD) rfl rfl rfl (Blk.drew HZ.out.2)) rfl ?_
  exact ⟨rfl,HZ.out.1.drew⟩
 ·have hln:es.length=n:=HL.out.2
  have hd1:decide (i<=base)=false:=decide_eq_false h1
  by_cases h2:i > base+(n:Int)
  ·have HR:Hid (atE base es i=(entD,false)):=if_neg (by omega)
   rw [HR.out]
   go_enter Tryz.func30,Tryz.ntmps30
   clear hln
   go_wp2_with (fail)
   refine wRz ?_
   try simp only [lAz]
   refine tA 0 ?_;try simp only [lAz]
   refine tA 1 ?_;try simp only [lAz]
   refine tA 2 ?_;try simp only [lAz]
   refine tA 3 ?_;try simp only [lAz]
   refine rA 4 (v:=?_) (hy:=?hy) ?_;case hy=>(intro w hE;have q0:=hE.cell b0;go_simp;try with_reducible rfl)
   try simp only [lAz]
   refine tA 5 ?_;try simp only [lAz]
   try simp only [hd1]
   try simp only [lAz]
   refine tA 6 ?_;try simp only [lAz]
   refine tA 7 ?_;try simp only [lAz]
   refine tA 8 ?_;try simp only [lAz]
   refine tA 9 ?_;try simp only [lAz]
   refine tA 10 ?_;try simp only [lAz]
   refine tA 12 ?_;try simp only [lAz]
   refine tA 13 ?_;try simp only [lAz]
   refine tA 14 ?_;try simp only [lAz]
   refine rA 11 (v:=?_) (hy:=?hy) ?_;case hy=>(intro w hE;have q0:=hE.cell b0;go_simp;try with_reducible rfl)
   try simp only [lAz]
   refine rA 15 (v:=?_) (hy:=?hy) ?_;case hy=>(intro w hE;have q0:=hE.cell b2;go_simp;try with_reducible rfl)
   try simp only [lAz]
   refine tA 16 ?_;try simp only [lAz]
   refine tA 17 ?_;try simp only [lAz]
   refine tA 18 ?_;try simp only [lAz]
   refine tA 19 ?_;try simp only [lAz]
   refine wDz ?_
   have z0:=HZ.out.2.cell 0
   have z1:=HZ.out.2.cell 1
   have z2:=HZ.out.2.cell 2
   have z3:=HZ.out.2.cell 3
   have f0:=HZ.out.2.frozen 0
   have f1:=HZ.out.2.frozen 1
   have f2:=HZ.out.2.frozen 2
   have f3:=HZ.out.2.frozen 3
   go_wp2_with (fail)
   refine bodyPost_ret (entRow4 (o:=entD) rfl rfl rfl (Blk.drew HZ.out.2)) rfl ?_
   exact ⟨rfl,HZ.out.1.drew⟩
  ·obtain ⟨k,hk⟩:∃ k:Nat,i-base-1=(k:Int):=⟨(i-base-1).toNat,by omega⟩
   have hkn:k<n:=by omega
   have hkL:k<es.length:=by omega
   obtain ⟨blk,off,rfl,hbl,x0,x1,x2,x3⟩:=ent_cells HL.out.1 hkn hkL
   have hgd:es.getD k entD=es[k]:=by rw [List.getD_eq_getElem?_getD,List.getElem?_eq_getElem hkL];rfl
   obtain ⟨o,ho⟩:=nmz (es[k])
   rw [ho] at hgd x0 x1 x2 x3
   have HR:Hid (atE base es i=(o,true)):=by
    show atE base es i=_
    unfold atE
    rw [if_pos (by omega),show (i-base-1).toNat=k by omega,hgd]
   rw [HR.out]
   have hw1:IntKind.i64.wrap (i-base)=i-base:=IntWalk.i64_in _ (by have:=hi.1;have:=hi.2;omega)
   have hw2:IntKind.i64.wrap (i-base-1)=(k:Int):=by rw [IntWalk.i64_in _ (by have:=hi.1;have:=hi.2;omega)];exact hk
   have hk0:(0:Int)<=(k:Int):=by omega
   have hkn':(k:Int)<(n:Int):=by omega
   clear hln ho hgd hkL hk hbl
   go_enter Tryz.func30,Tryz.ntmps30
   go_wp2_with (fail)
   refine wRz ?_
   try simp only [lAz]
   refine tA 0 ?_;try simp only [lAz]
   refine tA 1 ?_;try simp only [lAz]
   refine tA 2 ?_;try simp only [lAz]
   refine tA 3 ?_;try simp only [lAz]
   refine rA 4 (v:=?_) (hy:=?hy) ?_;case hy=>(intro w hE;have q0:=hE.cell b0;go_simp;try with_reducible rfl)
   try simp only [lAz]
   refine tA 5 ?_;try simp only [lAz]
   try simp only [hd1]
   try simp only [lAz]
   refine tA 6 ?_;try simp only [lAz]
   refine tA 7 ?_;try simp only [lAz]
   refine tA 8 ?_;try simp only [lAz]
   refine tA 9 ?_;try simp only [lAz]
   refine tA 10 ?_;try simp only [lAz]
   refine tA 12 ?_;try simp only [lAz]
   refine tA 13 ?_;try simp only [lAz]
   refine tA 14 ?_;try simp only [lAz]
   refine rA 11 (v:=?_) (hy:=?hy) ?_;case hy=>(intro w hE;have q0:=hE.cell b0;go_simp;try with_reducible rfl)
   try simp only [lAz]
   refine rA 15 (v:=?_) (hy:=?hy) ?_;case hy=>(intro w hE;have q0:=hE.cell b2;go_simp;try with_reducible rfl)
   try simp only [lAz]
   refine tA 16 ?_;try simp only [lAz]
   refine tA 17 ?_;try simp only [lAz]
   refine tA 18 ?_;try simp only [lAz]
   refine tA 19 ?_;try simp only [lAz]
   refine wDz ?_
   go_wp2_with (fail)
   refine wRz ?_
   try simp only [lAz]
   refine tA 0 ?_;try simp only [lAz]
   refine tA 1 ?_;try simp only [lAz]
   refine tA 2 ?_;try simp only [lAz]
   refine tA 4 ?_;try simp only [lAz]
   refine tA 5 ?_;try simp only [lAz]
   refine tA 6 ?_;try simp only [lAz]
   refine tA 7 ?_;try simp only [lAz]
   refine rA 8 (v:=?_) (hy:=?hy) ?_;case hy=>(intro w hE;have q0:=hE.cell b0;go_simp;try with_reducible rfl)
   try simp only [lAz]
   refine tA 9 ?_;try simp only [lAz]
   refine tA 10 ?_;try simp only [lAz]
   refine rA 3 (v:=?_) (hy:=?hy) ?_;case hy=>(intro w hE;have q0:=hE.cell b2;go_simp;try with_reducible rfl)
   try simp only [lAz]
   refine tA 11 ?_;try simp only [lAz]
   refine rA 12 (v:=?_) (hy:=?hy) ?_;case hy=>(intro w hE;have q0:=hE.cell x0;have q1:=hE.cell x1;have q2:=hE.cell x2;have q3:=hE.cell x3;go_simp;try with_reducible rfl)
   try simp only [lAz]
   have z0:=HZ.out.2.cell 0
   have z1:=HZ.out.2.cell 1
   have z2:=HZ.out.2.cell 2
   have z3:=HZ.out.2.cell 3
   have f0:=HZ.out.2.frozen 0
   have f1:=HZ.out.2.frozen 1
   have f2:=HZ.out.2.frozen 2
   have f3:=HZ.out.2.frozen 3
   refine rZz 13 λ K hK=>?_;go_simp;apply hK;clear hK K
   refine rZz 14 λ K hK=>?_;go_simp;apply hK;clear hK K
   refine wDz ?_
   go_wp2_with (fail)
   refine bodyPost_ret (entRow4 (o:=o) rfl rfl rfl (Blk.drew (Blk.drew (Blk.new _ _ _)))) rfl ?_
   exact ⟨rfl,(((Below.refl _ _).alloc (Nat.le_refl _) _).drew).drew⟩
theorem termE_at {base bt:Int} {es:List LogE} {i:Int} (h:¬ i=base):termE base bt es i=((atE base es i).1.term,(atE base es i).2):=by
 unfold termE atE
 rw [if_neg h]
 split
 ·rfl
 ·rfl
theorem termR_any (x:Nat) (base bt:Int) (A:Option Addr) (n c:Nat) (es:List LogE) (i:Int) (w:World) (h:LogAt w x base bt A n c es) (hb:0<=base/\base<=1000000) (hn:n<=100000) (hi:I64 i) :
  Calls Tryz.prog 10 #[ptrV x,.int .i64 i] w λ e w'=>e=.returned (.tuple #[.int .i64 (termE base bt es i).1,.bool (termE base bt es i).2])/\Below w.heap.size w w':=by
 have b0:=h.1.cell 0
 have b1:=h.1.cell 1
 by_cases h1:i=base
 ·have HR:Hid (termE base bt es i=(bt,true)):=if_pos h1
  rw [HR.out]
  have he:(i==base)=true:=beq_iff_eq.2 h1
  clear h1 h
  go_enter Tryz.func10,Tryz.ntmps10
  go_wp2_with (fail)
  go_ret2
  exact ⟨rfl,Below.refl _ _⟩
 ·have HR:=Hdz (termE_at (bt:=bt) (es:=es) h1)
  have he:(i==base)=false:=beq_eq_false_iff_ne.2 h1
  have HA:=Hdz (atR_any x base bt A n c es i w h hb hn hi)
  rw [HR.out]
  obtain ⟨⟨a0,a1,a2,a3⟩,hat⟩:∃ o,(atE base es i).1=o:=⟨_,rfl⟩
  rw [hat] at HA ⊢
  clear h1 h hat
  go_enter Tryz.func10,Tryz.ntmps10
  go_wp2_with (fail)
  go_must (refine HA.out.mono ?_)
  rintro e w1 ⟨rfl,hb1⟩
  unfold entV
  have HB1:=Hdz hb1
  clear hb1
  go_wp2_with (fail)
  go_ret2
  exact ⟨rfl,HB1.out.alloc HB1.out.size _⟩
theorem followT_at:∀ {es:List LogE} {b u:Int},FollowT b u es->∀ k (h:k<es.length),es[k].idx=b+1+(k:Int)
 | o :: l,b,u,h,0,_=>by
  have:=h.1
  simp only [List.getElem_cons_zero]
  omega
 | o :: l,b,u,h,k+1,hk=>by
  have h1:=followT_at h.2.2 k (by simpa using hk)
  have h2:=h.1
  simp only [List.getElem_cons_succ]
  rw [h1]
  omega
def MatchAt (fs ms:List LogE) (p j:Nat):Prop:=p+j<fs.length/\(fs.getD (p+j) entD).term=(ms.getD j entD).term
def MergeP (fs ms:List LogE) (p m:Nat) (x:Nat) (w:World) (e:Ending) (w':World):Prop:=
 (∃ b:Bool,e=.returned (.tuple #[.int .i64 0,.bool b])/\Below w.heap.size w w') ∨
 (∃ a v,a<m/\FollowT (p:Int) (termE 0 0 fs (p:Int)).1 ms/\(∀ j,j<a->MatchAt fs ms p j)/\p+a<=fs.length/\e=.returned (.tuple #[.int .i64 ((p+1+a:Nat):Int),.bool true])/\Blk w' x 54 #[.int .i64 0,.int .i64 0,v]/\w'.ownsRow w.heap.size 62 4 v (p+a+(m-a)) ((fs.take (p+a)++ms.drop a).flatMap entCs)/\Keeps (λ k=>k=x) w w')
theorem flat_take4:∀ (l:List LogE) (k:Nat),(l.flatMap entCs).take (k*4)=(l.take k).flatMap entCs
 | [],k=>by simp
 | a :: l,0=>by simp
 | a :: l,k+1=>by
  rw [List.flatMap_cons,List.take_succ_cons,List.flatMap_cons,List.take_append,entCs_len,List.take_of_length_le (by rw [entCs_len];omega),show (k+1)*4-4=k*4 by omega,flat_take4 l k]
theorem flat_drop4:∀ (l:List LogE) (k:Nat),(l.flatMap entCs).drop (k*4)=(l.drop k).flatMap entCs
 | [],k=>by simp
 | a :: l,0=>by simp
 | a :: l,k+1=>by
  rw [List.flatMap_cons,List.drop_succ_cons,List.drop_append,entCs_len,List.drop_of_length_le (by rw [entCs_len];omega),show (k+1)*4-4=k*4 by omega,flat_drop4 l k,List.nil_append]
theorem mergeR_any (x:Nat) (A:Option Addr) (n c:Nat) (fs:List LogE) (p:Nat) (A2:Option Addr) (m c2:Nat) (ms:List LogE) (w:World) (h:LogAt w x 0 0 A n c fs) (hA:A=none->c=0) (hn:n<=1000) (hp:p<=n) (hv:Sl w 4 (.slice A2 m c2) m (ms.flatMap entCs)) (hl:ms.length=m) (hm:m<=1000) (hok:∀ o∈ms,I64 o.idx) (hx2:0<m->∀ b o,A2=some ⟨b,o,none⟩->b≠x) :
  Calls Tryz.prog 11 #[ptrV x,.int .i64 (p:Int),.int .i64 (termE 0 0 fs (p:Int)).1,.int .i64 0,.slice A2 m c2] w (MergeP fs ms p m x w):=by
 obtain ⟨j0,hj,hz0,hz1,hz2⟩:=info_parts infoEnt
 have hfn:=h.2.2
 have hok2:(termE 0 0 fs (p:Int)).2=true:=by
  unfold termE
  split
  ·rfl
  ·rw [if_pos (by omega)]
 have HTm:=Hdz λ W i (hb:Below w.heap.size w W) (hi:I64 i)=>termR_any x 0 0 A n c fs i W (h.below hb) ⟨by omega,by omega⟩ (by omega) hi
 have hT0:=HTm.out w (p:Int) (Below.refl _ _) ⟨by omega,by omega⟩
 rw [hok2] at hT0
 obtain ⟨t,ht⟩:=nmz ((termE 0 0 fs (p:Int)).1)
 rw [ht] at hT0 ⊢
 have HTt:=Hdz ht
 have HT0:=Hdz hT0
 have HF:=Hdz λ W (hb:Below w.heap.size w W)=>followsR_any (p:Int) t A2 m c2 ms W (hv.below hb) hl (by omega) hok ⟨by omega,by omega⟩
 have HLg:=Hdz (Anz h hA)
 have HV:=Hdz (Anz hv hl)
 have HFn:=Hdz hfn
 have HX2:=Hdz hx2
 have HCap:Hid (n<=c):=by obtain ⟨_,_,e,h1,_⟩:=h.2.1;cases e;exact h1
 have HCap2:Hid (m<=c2):=by obtain ⟨_,_,e,h1,_⟩:=hv;cases e;exact h1
 have htt:(t != t)=false:=by simp
 clear hT0 ht hok2 hfn h hA hv hl hok hx2
 go_enter Tryz.func11,Tryz.ntmps11
 go_wp2_with (fail)
 go_must (refine HT0.out.mono ?_)
 rintro e w1 ⟨rfl,hb1⟩
 have HB1:=Hdz hb1
 clear hb1
 go_wp2_with (fail)
 go_must (refine (HF.out w1 HB1.out).mono ?_)
 rintro e w2 ⟨rfl,hb2⟩
 have HB2:=Hdz (HB1.out.trans (hb2.mono HB1.out.size))
 clear hb2
 cases hfb:followB (p:Int) t ms
 ·go_wp2_with (fail)
  go_ret2
  exact .inl ⟨false,rfl,HB2.out⟩
 ·have HFo:=Hdz (followB_T hfb)
  clear hfb
  go_wp2_with (fail)
  go_loopg [14] m (λ gk s14 wr=>∃ i:Nat,s14=.int .i64 (i:Int)/\i+gk=m/\Hid (∀ j,j<i->MatchAt fs ms p j)/\Hid (Below w.heap.size w wr))
  case atStart=>exact ⟨0,rfl,by omega,λ j hj=>by omega,HB2.out⟩
  case round =>
   obtain ⟨i,rfl,hi,hM,hB⟩:=hrel
   obtain ⟨wo,rfl⟩:∃ wo,wo=wr:=⟨_,rfl⟩
   obtain ⟨go,rfl⟩:∃ g,g=gk:=⟨_,rfl⟩
   by_cases hin:i<m
   ·have h1:(i:Int)<(m:Int):=by omega
    have h0:(0:Int)<=(i:Int):=by omega
    have hiL:i<ms.length:=by have:=HV.out.2;omega
    have hidx:=followT_at HFo.out i hiL
    obtain ⟨blk,off,rfl,hbl,x0,x1,x2,x3⟩:=ent_cells (HV.out.1.below hB.out) hin hiL
    have hgd:ms.getD i entD=ms[i]:=by rw [List.getD_eq_getElem?_getD,List.getElem?_eq_getElem hiL];rfl
    obtain ⟨o,ho⟩:=nmz (ms[i])
    rw [ho] at hgd hidx x0 x1 x2 x3
    obtain ⟨ix,hix⟩:∃ ix:Int,o.idx=ix:=⟨_,rfl⟩
    rw [hix] at hidx x0
    have hixe:ix=((p+1+i:Nat):Int):=by rw [hidx];omega
    have hT:=HTm.out wo ix hB.out ⟨by omega,by omega⟩
    have hte:termE 0 0 fs ix=if p+i<n then ((fs.getD (p+i) entD).term,true) else (0,false):=by
     unfold termE
     rw [if_neg (by omega)]
     by_cases h5:p+i<n
     ·rw [if_pos h5,if_pos (by have:=HFn.out;omega),show (ix-0-1).toNat=p+i by omega]
     ·rw [if_neg h5,if_neg (by have:=HFn.out;omega)]
    have HX1:Hid (∀ W,Below wo.heap.size wo W->W.cell? ⟨blk,off+i*4+1,none⟩=some (.int .i64 o.term)):=λ W hb=>(hb.cell (p:=⟨blk,off+i*4+1,none⟩) hbl).trans x1
    have HX0:Hid (∀ W,Below wo.heap.size wo W->W.cell? ⟨blk,off+i*4,none⟩=some (.int .i64 ix)):=λ W hb=>(hb.cell (p:=⟨blk,off+i*4,none⟩) hbl).trans x0
    have HGd:=Hdz hgd
    have HIx:=Hdz hixe
    have hw:IntKind.i64.wrap ((i:Int)+1)=(i:Int)+1:=IntWalk.i64_in _ (by omega)
    obtain ⟨_,_,e9,hblw,-⟩:=ent_cells HV.out.1 hin hiL
    cases e9
    have HBl:=Hdz (Anz hbl hblw)
    clear hgd hidx hix ho hiL hbl hblw
    by_cases hmt:p+i<n/\(fs.getD (p+i) entD).term=o.term
    ·rw [hte,if_pos hmt.1,hmt.2] at hT
     have HT:=Hdz hT
     have HM2:Hid (MatchAt fs ms p i):=⟨by have:=HFn.out;have:=hmt.1;omega,by rw [HGd.out];exact hmt.2⟩
     have hoo:(o.term==o.term)=true:=beq_self_eq_true _
     clear hT hte hmt hixe
     go_wp2_with (fail)
     go_must (refine HT.out.mono ?_)
     rintro e w3 ⟨rfl,hb3⟩
     have y1:=HX1.out w3 hb3
     have HB3:=Hdz (hB.out.trans (hb3.mono hB.out.size))
     clear hb3
     go_wp2_with (fail)
     go_roundg (go-1)
     case measure=>omega
     case rel=>exact ⟨i+1,by simp,by omega,(λ j hj=>by
      rcases Nat.lt_or_ge j i with h2 | h2
      ·exact hM.out j h2
      ·have:j=i:=by omega
       subst this
       exact HM2.out),HB3.out⟩
    ·have hT2:∃ (u:Int) (b:Bool),termE 0 0 fs ix=(u,b)/\(b=false\/(b=true/\(u==o.term)=false)):=by
      rw [hte]
      by_cases h5:p+i<n
      ·rw [if_pos h5]
       exact ⟨_,_,rfl,.inr ⟨rfl,beq_eq_false_iff_ne.2 λ e=>hmt ⟨h5,e⟩⟩⟩
      ·rw [if_neg h5]
       exact ⟨_,_,rfl,.inl rfl⟩
     obtain ⟨u,b,hub,hbu⟩:=hT2
     rw [hub] at hT
     have HT:=Hdz hT
     have hx0:¬ ix<=0:=by omega
     have hpi:p+i<=n:=by
      rcases Nat.lt_or_ge 0 i with h5 | h5
      ·have:=(hM.out (i-1) (by omega)).1
       have:=HFn.out
       omega
      ·omega
     have hcut:IntKind.i64.wrap (ix-0)=ix:=by rw [IntWalk.i64_in _ (by omega)];omega
     obtain ⟨q,hpq⟩:=nmz (p+i)
     have HPq:=Hdz hpq
     have hcut2:IntKind.i64.wrap (ix-1)=(q:Int):=by rw [IntWalk.i64_in _ (by omega)];omega
     have hcut0:IntKind.i64.wrap ix=ix:=IntWalk.i64_in _ (by omega)
     have HD0:Hid (decide (ix<=0)=false):=decide_eq_false hx0
     rw [hpq] at hpi
     have HPi:=Hdz hpi
     clear hT hte hmt hixe hub hpi hpq
     have hbu':Hid (b=false\/(b=true/\(u==o.term)=false)):=hbu
     clear hbu
     go_wp2_with (fail)
     go_must (refine HT.out.mono ?_)
     rintro e w3 ⟨rfl,hb3⟩
     have y0:=HX0.out w3 hb3
     have y1:=HX1.out w3 hb3
     have HB3:=Hdz (hB.out.trans (hb3.mono hB.out.size))
     have HB3o:=Hdz hb3
     have b0:=(HLg.out.1.below HB3.out).1.cell 0
     clear hb3
     have HBlk:Hid (blk≠x/\blk<wo.heap.size):=⟨HX2.out (by omega) blk off rfl,HBl.out.1⟩
     go_upto_region 8 with fail
     go_cut [66] from 57 to 67 (λ s66 wx=>s66=.bool false/\wx=w3)
     case first =>
      rcases hbu'.out with rfl | ⟨rfl,h5⟩
      all_goals
       go_wp2_with (fail)
       go_meet
       exact ⟨rfl,rfl⟩
     case rest =>
     obtain ⟨rfl,rfl⟩:=hcut
     obtain ⟨w3,rfl⟩:∃ we,we=wc:=⟨_,rfl⟩
     go_upto_region 9 with fail
     go_cut [76] from 57 to 77 (λ s76 wx=>s76=.bool false/\wx=w3)
     case first =>
      rcases hbu'.out with rfl | ⟨rfl,h5⟩
      all_goals
       go_wp2_with (fail)
       go_meet
       first | exact ⟨rfl,rfl⟩ | exact ⟨by rw [HD0.out],rfl⟩
     case rest =>
     obtain ⟨rfl,rfl⟩:=hcut
     obtain ⟨w3,rfl⟩:∃ we,we=wc:=⟨_,rfl⟩
     go_wp2_with (fail)
     refine wRz ?_
     try simp only [lAz]
     refine tA 0 ?_;try simp only [lAz]
     refine tA 1 ?_;try simp only [lAz]
     refine tA 2 ?_;try simp only [lAz]
     refine tA 3 ?_;try simp only [lAz]
     refine tA 5 ?_;try simp only [lAz]
     refine tA 6 ?_;try simp only [lAz]
     refine tA 7 ?_;try simp only [lAz]
     refine rA 4 (v:=?_) (hy:=?hy) ?_;case hy=>(intro w hE;have q0:=hE.cell y0;go_simp;try with_reducible rfl)
     try simp only [lAz]
     refine rA 8 (v:=?_) (hy:=?hy) ?_;case hy=>(intro w hE;have q0:=hE.cell b0;go_simp;try with_reducible rfl)
     try simp only [lAz]
     refine tA 9 ?_;try simp only [lAz]
     refine tA 10 ?_;try simp only [lAz]
     refine rZz 11 λ K hK=>?_;go_simp;apply hK;clear hK K
     refine wDz ?_
     clear y0 y1 b0 hcut hcut0 hcut2 hx0
     go_wp2_with (fail)
     go_loopg [18] (m-i) (λ gk s18 wr=>∃ k:Nat,s18=.int .i64 (k:Int)/\k+gk=m/\i<=k/\Hid (Below wo.heap.size wo wr))
     case atStart=>exact ⟨i,rfl,by omega,Nat.le_refl _,HB3o.out.drew⟩
     case round =>
      obtain ⟨k,rfl,hk,hik,hBk⟩:=hrel
      obtain ⟨wi,rfl⟩:∃ wi,wi=wr:=⟨_,rfl⟩
      by_cases hkn:k<m
      ·have g1:(k:Int)<(m:Int):=by omega
       have g0:(0:Int)<=(k:Int):=by omega
       have hkL:k<ms.length:=by have:=HV.out.2;omega
       have hBi:Below w.heap.size w wi:=hB.out.trans (hBk.out.mono hB.out.size)
       have hidk:=followT_at HFo.out k hkL
       obtain ⟨_,_,e0,hbk,k0,k1,-,-⟩:=ent_cells (HV.out.1.below hBi) hkn hkL
       cases e0
       obtain ⟨qe,hq⟩:∃ o,ms[k]=o:=⟨_,rfl⟩
       rw [hq] at hidk k0 k1
       obtain ⟨iq,hiq⟩:∃ ix:Int,qe.idx=ix:=⟨_,rfl⟩
       rw [hiq] at hidk k0
       have hT:=HTm.out wi iq hBi ⟨by omega,by omega⟩
       obtain ⟨⟨u2,b2⟩,hu2⟩:∃ r,termE 0 0 fs iq=r:=⟨_,rfl⟩
       rw [hu2] at hT
       have HT:=Hdz hT
       have hq0:¬ iq<=0:=by omega
       have HK0:Hid (∀ W,Below wi.heap.size wi W->W.cell? ⟨blk,off+k*4,none⟩=some (.int .i64 iq)/\W.cell? ⟨blk,off+k*4+1,none⟩=some (.int .i64 qe.term)):=λ W hb=>⟨(hb.cell (p:=⟨blk,off+k*4,none⟩) hbk).trans k0,(hb.cell (p:=⟨blk,off+k*4+1,none⟩) hbk).trans k1⟩
       have HQ0:Hid (decide (iq<=0)=false):=decide_eq_false hq0
       have hwk:IntKind.i64.wrap ((k:Int)+1)=(k:Int)+1:=IntWalk.i64_in _ (by omega)
       clear hT hu2 hidk hq hiq hkL hbk hBi
       go_wp2_with (fail)
       go_must (refine HT.out.mono ?_)
       rintro e w4 ⟨rfl,hb4⟩
       obtain ⟨y0,y1⟩:=HK0.out w4 hb4
       have HB4:=Hdz (hBk.out.trans (hb4.mono hBk.out.size))
       clear hb4 k0 k1
       go_upto_region 16 with fail
       go_cut [123] from 95 to 123 (λ s123 wx=>s123=.bool false/\wx=w4)
       case first =>
        have hcs:b2=false\/(b2=true/\(u2 != qe.term)=false)\/(b2=true/\(u2 != qe.term)=true):=by
         cases b2
         ·exact .inl rfl
         ·cases h6:(u2 != qe.term)
          ·exact .inr (.inl ⟨rfl,rfl⟩)
          ·exact .inr (.inr ⟨rfl,rfl⟩)
        rcases hcs with rfl | ⟨rfl,h6⟩ | ⟨rfl,h6⟩
        all_goals
         go_wp2_with (fail)
         go_meet
         first | exact ⟨rfl,rfl⟩ | exact ⟨by rw [HQ0.out],rfl⟩
       case rest =>
       obtain ⟨rfl,rfl⟩:=hcut
       obtain ⟨w4,rfl⟩:∃ we,we=wc:=⟨_,rfl⟩
       clear y0 y1
       go_wp2_with (fail)
       go_roundg (gk-1)
       case measure=>omega
       case rel=>exact ⟨k+1,by simp,by omega,by omega,HB4.out⟩
      ·have g1:¬ (k:Int)<(m:Int):=by omega
       have hBi:Below w.heap.size w wi:=hB.out.trans (hBk.out.mono hB.out.size)
       have hLi:=HLg.out.1.below hBi
       have b2:=hLi.1.cell 2
       have HLi:=Hdz hLi
       have HBi:=Hdz hBi
       have hz:=hBi.size
       have hsl1:=Sl.take hLi.2.1 HPi.out
       rw [flat_take4] at hsl1
       have hsl2:=Sl.drop (HV.out.1.below hBi) (Nat.le_of_lt hin)
       rw [flat_drop4] at hsl2
       have hq1:q<=1000:=by have:=HPi.out;omega
       have c5':¬ c2=i:=by have:=HCap2.out;omega
       have c1:(0:Int)<=(q:Int):=by omega
       have c2':(q:Int)<=(c:Int):=by have:=HPi.out;have:=HCap.out;omega
       have c3:(i:Int)<=(m:Int):=by omega
       have c4:(m:Int)<=(c2:Int):=by have:=HCap2.out;omega
       have HSl2:=Hdz hsl2
       clear hLi hBi hsl2
       go_wp2_with (fail)
       refine wRz ?_
       try simp only [lAz]
       refine tA 0 ?_;try simp only [lAz]
       refine tA 1 ?_;try simp only [lAz]
       refine tA 2 ?_;try simp only [lAz]
       refine tA 3 ?_;try simp only [lAz]
       refine tA 5 ?_;try simp only [lAz]
       refine tA 8 ?_;try simp only [lAz]
       refine tA 9 ?_;try simp only [lAz]
       refine tA 10 ?_;try simp only [lAz]
       refine rA 4 (v:=?_) (hy:=?hy) ?_;case hy=>(intro w hE;have q0:=hE.cell b2;go_simp;try with_reducible rfl)
       try simp only [lAz]
       refine tA 6 ?_;try simp only [lAz]
       refine rZz 7 λ K hK=>?_;refine if_on rfl ?_
       go_must (refine wp_append_sl _ _ 24 rfl w.heap.size 62 j0 _ 4 40 Tryz.underlying24 hj hz0 hz1 hz2 rfl (by decide) (.slice none 0 0) 0 [] rfl (World.ownsRow_nil _ _ _ _) A q c ((fs.take q).flatMap entCs) rfl hsl1 HLg.out.2 (entCs_one _) (by unfold maxLen;omega) (by omega) hz ?_)
       intro v5 w5 own5 hg5
       have hB5:Below wi.heap.size wi w5:=((Below.refl _ wi).drew).trans (((Keeps.refl (λ _=>False) wi.drew).grown hg5 λ k e=>by cases e).below (Nat.le_refl _) λ i hi e=>e)
       rw [Nat.zero_add,List.nil_append] at own5
       obtain ⟨A5,c5,rfl,-⟩:=Sl.of_own own5
       have hz5:=Nat.le_trans hz hB5.size
       have hsl3:=HSl2.out.below hB5
       try go_simp
       apply hK
       clear hK K
       refine rZz 11 λ K hK=>?_;refine if_on rfl ?_
       go_must (refine wp_append_sl _ _ 24 rfl w.heap.size 62 j0 _ 4 40 Tryz.underlying24 hj hz0 hz1 hz2 rfl (by decide) (.slice A5 q c5) q _ rfl own5 _ (m-i) (c2-i) ((ms.drop i).flatMap entCs) rfl hsl3 (λ e=>by cases e) (entCs_one _) (by unfold maxLen;omega) (by omega) hz5 ?_)
       intro v6 w6 own6 hg6
       have hK6:Keeps (λ k2=>(Value.slice A5 q c5).ownBlock=some k2) w5 w6:=(Keeps.refl _ _).grown hg6 λ k e _=>e
       have hB6:Below w.heap.size w w6:=(HBi.out.trans (hB5.mono HBi.out.size)).trans (hK6.below hz5 λ k2 hk e=>by have:=(own5.lt k2 e).1;omega)
       rw [<- List.flatMap_append] at own6
       obtain ⟨A6,c6,rfl,-⟩:=Sl.of_own own6
       have HO6:=Hdz own6
       have bx:=HLi.out.1.keeps (Keeps.of_below (S:=λ _=>False) hB5) id
       have hxl:x<w.heap.size:=(HLg.out.1.1).lt
       have bx6:=bx.keeps hK6 λ e=>by have:=(own5.lt x e).1;omega
       have z2:=bx6.cell 2
       have f2:=bx6.frozen 2
       have hk7:=(Keeps.refl (λ k2=>k2=x) w6).setCell (p:=⟨x,2,none⟩) (λ _=>rfl) (.slice A6 (q+(m-i)) c6)
       have HX6:=Hdz (bx6.set 2 (.slice A6 (q+(m-i)) c6))
       have HK7:Hid (Keeps (λ k2=>k2=x) w (w6.setCell ⟨x,2,none⟩ (.slice A6 (q+(m-i)) c6))):=(Keeps.of_below (S:=λ k2=>k2=x) hB6).trans hk7 λ _ _ e=>e
       have HO7:Hid ((w6.setCell ⟨x,2,none⟩ (.slice A6 (q+(m-i)) c6)).ownsRow w.heap.size 62 4 (.slice A6 (q+(m-i)) c6) (q+(m-i)) ((fs.take q++ms.drop i).flatMap entCs)):=own_keeps own6 hk7 λ k2 e e2=>by have:=(own6.lt k2 e).1;omega
       have y0:(w6.setCell ⟨x,2,none⟩ (.slice A6 (q+(m-i)) c6)).cell? ⟨blk,off+i*4,none⟩=some (.int .i64 ix):=by
        have q1:=HX0.out wi hBk.out
        have q2:w5.cell? ⟨blk,off+i*4,none⟩=some (.int .i64 ix):=(hB5.cell (p:=⟨blk,off+i*4,none⟩) (by have:=HBl.out.2;show blk<wi.heap.size;omega)).trans q1
        have q3:w6.cell? ⟨blk,off+i*4,none⟩=some (.int .i64 ix):=(hK6.cell (p:=⟨blk,off+i*4,none⟩) (by have:=HBl.out.2;show blk<w5.heap.size;omega) (λ e=>by have:=(own5.lt blk e).1;have:=HBl.out.2;omega)).trans q2
        exact (hk7.cell (p:=⟨blk,off+i*4,none⟩) (by have:=HBl.out.2;have:=hB6.size;show blk<w6.heap.size;omega) (λ e=>HBlk.out.1 e)).trans q3
       have hixe:ix=((p+1+i:Nat):Int):=HIx.out
       clear own5 own6 hg5 hg6 hB5 hK6 hB6 bx bx6 hk7 hsl1 hsl3 b2
       try go_simp
       apply hK
       clear hK K
       try simp only [lAz]
       refine tA 12 ?_;try simp only [lAz]
       refine tA 13 ?_;try simp only [lAz]
       refine rZz 14 λ K hK=>?_;go_simp;apply hK;clear hK K
       refine wDz ?_
       go_wp2_with (fail)
       go_ret2
       refine .inr ⟨i,_,hin,(by rw [HTt.out];exact HFo.out),hM.out,(by have:=HPi.out;have:=HPq.out;have:=HFn.out;omega),?_,HX6.out,?_,HK7.out⟩
       ·refine (show _=Ending.returned (.tuple #[.int .i64 ((p:Int)+1+(i:Int)),.bool true]) from rfl).trans ?_
        rw [show ((p+1+i:Nat):Int)=(p:Int)+1+(i:Int) by omega]
       ·have e:=HPq.out
        rw [e]
        exact HO7.out
   ·have h1:¬ (i:Int)<(m:Int):=by omega
    go_wp2_with (fail)
    go_ret2
    exact .inl ⟨true,rfl,hB.out⟩
theorem sliceR_any (x:Nat) (A:Option Addr) (n c:Nat) (es:List LogE) (f:Nat) (w:World) (h:LogAt w x 0 0 A n c es) (hn:n<=99) (hf:Follow 0 es) (hfn:f<=n) :
  Calls Tryz.prog 16 #[ptrV x,.int .i64 ((f+1:Nat):Int),.int .i64 100] w λ e w'=>∃ v,e=.returned v/\w'.ownsRow w.heap.size 62 4 v (n-f) ((es.drop f).flatMap entCs)/\Below w.heap.size w w':=by
 obtain ⟨j0,hj,hz0,hz1,hz2⟩:=info_parts infoEnt
 have hln:=h.2.2
 have HL:=Hdz h
 have HF:=Hdz (Anz hf hln)
 have b0:=h.1.cell 0
 have hx:x<w.heap.size:=h.1.lt
 have hf0:¬ ((f+1:Nat):Int)<=0:=by omega
 clear h hf hln
 obtain ⟨fi,hfi⟩:∃ x:Int,((f+1:Nat):Int)=x:=⟨_,rfl⟩
 have HFi:=Hdz hfi
 rw [hfi] at hf0 ⊢
 clear hfi
 go_enter Tryz.func16,Tryz.ntmps16
 go_wp2_with (fail)
 clear b0
 go_loopg [7,8] n (λ gk s7 s8 wr=>∃ (j k:Nat) (A7:Option Addr) (c7:Nat),s7=.slice A7 k c7/\s8=.int .i64 (j:Int)/\j+gk=n/\Hid (k=j-f)/\Hid (wr.ownsRow w.heap.size 62 4 (.slice A7 k c7) k (((es.take j).drop f).flatMap entCs))/\Hid (Below w.heap.size w wr))
 case atStart=>exact ⟨0,0,none,0,rfl,rfl,by omega,(by show 0=0-f;omega),(by show World.ownsRow _ _ _ _ _ _ _;simpa using World.ownsRow_nil _ _ _ _),Below.refl _ _⟩
 case round =>
  obtain ⟨j,k,A7,c7,rfl,rfl,hj',hk,hO,hB⟩:=hrel
  obtain ⟨wo,rfl⟩:∃ wo,wo=wr:=⟨_,rfl⟩
  have hLo:=HL.out.below hB.out
  have b2:=hLo.1.cell 2
  by_cases hin:j<n
  ·have g1:(j:Int)<(n:Int):=by omega
   have g0:(0:Int)<=(j:Int):=by omega
   have g2:(k:Int)<100:=by have:=hk.out;omega
   have hjL:j<es.length:=by have:=HF.out.2;omega
   have hidx:=HF.out.1.at j hjL
   obtain ⟨blk,off,rfl,hbl,x0,x1,x2,x3⟩:=ent_cells hLo.2.1 hin hjL
   obtain ⟨o,ho⟩:=nmz (es[j])
   rw [ho] at hidx x0 x1 x2 x3
   obtain ⟨ix,hix⟩:∃ ix:Int,o.idx=ix:=⟨_,rfl⟩
   rw [hix] at hidx x0
   have htk:es.take (j+1)=es.take j++[o]:=by rw [List.take_succ_eq_append_getElem hjL,ho]
   have HTk:=Hdz htk
   have HIx:=Hdz hix
   have hw:IntKind.i64.wrap ((j:Int)+1)=(j:Int)+1:=IntWalk.i64_in _ (by omega)
   have HJ:=Hdz hjL
   by_cases hge:f<=j
   ·have hgi:ix >= fi:=by have:=HFi.out;omega
    have hb4:Below wo.heap.size wo (wo.alloc (.cells #[.int .i64 ix,.int .i64 o.term,.int .i64 o.kind,strV o.data] 62)):=(Below.refl _ _).alloc (Nat.le_refl _) _
    have hown:=own_below hO.out hb4
    have HBT:Hid (Below w.heap.size w (wo.alloc (.cells #[.int .i64 ix,.int .i64 o.term,.int .i64 o.kind,strV o.data] 62))):=hB.out.trans (hb4.mono hB.out.size)
    have HOw:=Hdz hown
    have hsz:=HBT.out.size
    have hrow:=row_ent wo o 62 wo.heap.size rfl
    rw [hix] at hrow
    have HGe:=Hdz hge
    clear hb4 htk hix ho hidx hLo hge hjL
    go_wp2_with (at_builtin;go_must (refine wpList_append_at rfl _ _ 24 rfl w.heap.size 62 j0 _ 4 40 Tryz.underlying24 hj hz0 hz1 hz2 rfl (by decide) _ k _ rfl hown ⟨wo.heap.size,0,none⟩ 1 1 (entCs o) rfl rfl hrow (by simp [entCs,Value.oneCell']) (by unfold maxLen;omega) (by omega) hsz ?_))
    intro v8 w8 own8 hg8 hat8
    obtain ⟨A8,c8,rfl,-⟩:=Sl.of_own own8
    have HB8:Hid (Below w.heap.size w w8):=HBT.out.trans (((Keeps.refl (λ k2=>(Value.slice A7 k c7).ownBlock=some k2) _).grown hg8 λ k e _=>e).below HBT.out.size λ k hk e=>by have:=(HOw.out.lt k e).1;omega)
    have HO8:Hid (w8.ownsRow w.heap.size 62 4 (.slice A8 (k+1) c8) (k+1) (((es.take (j+1)).drop f).flatMap entCs)):=by
     show World.ownsRow _ _ _ _ _ _ _
     rw [HTk.out,List.drop_append_of_le_length (by rw [List.length_take];have:=HF.out.2;have:=HGe.out;omega),List.flatMap_append]
     simpa using own8
    clear own8 hg8 hat8 hown hsz hrow
    go_wp2_with (fail)
    go_roundg (gk-1)
    case measure=>omega
    case rel=>exact ⟨j+1,k+1,A8,c8,rfl,by simp,by omega,(by have:=hk.out;have:=HGe.out;show k+1=j+1-f;omega),HO8.out,HB8.out⟩
   ·have hgi:¬ ix >= fi:=by have:=HFi.out;omega
    have HGe:=Hdz hge
    have hk0:k=0:=by have:=hk.out;omega
    have HN:Hid (wo.ownsRow w.heap.size 62 4 (.slice A7 k c7) k (((es.take (j+1)).drop f).flatMap entCs)):=by
     have h1:=hO.out
     rw [List.drop_of_length_le (by rw [List.length_take];omega)] at h1
     show World.ownsRow _ _ _ _ _ _ _
     rw [List.drop_of_length_le (by rw [List.length_take];omega)]
     exact h1
    clear htk hix ho hidx hLo hge hk0 hjL
    go_wp2_with (fail)
    go_roundg (gk-1)
    case measure=>omega
    case rel=>exact ⟨j+1,k,A7,c7,rfl,by simp,by omega,(by have:=hk.out;have:=HGe.out;show k=j+1-f;omega),HN.out,hB.out⟩
  ·have g1:¬ (j:Int)<(n:Int):=by omega
   have HN:Hid (wo.ownsRow w.heap.size 62 4 (.slice A7 k c7) (n-f) ((es.drop f).flatMap entCs)):=by
    have h1:=hO.out
    rw [List.take_of_length_le (by have:=HF.out.2;omega)] at h1
    have:k=n-f:=by have:=hk.out;omega
    rw [this] at h1 ⊢
    exact h1
   clear hLo
   go_wp2_with (fail)
   go_ret
   exact ⟨_,rfl,HN.out,hB.out⟩
def CompP (es:List LogE) (n k:Nat) (u:Int) (x:Nat) (w:World) (e:Ending) (w':World):Prop:=
 ∃ v,e=.returned (.bool true)/\Blk w' x 54 #[.int .i64 (k:Int),.int .i64 u,v]/\w'.ownsRow w.heap.size 62 4 v (n-k) ((es.drop k).flatMap entCs)/\Keeps (λ j=>j=x) w w'
theorem compR_any (x:Nat) (blk off n c:Nat) (es:List LogE) (k:Nat) (w:World) (h:LogAt w x 0 0 (some ⟨blk,off,none⟩) n c es) (hn:n<=99) (hk:k<=n) (hkc:n<=c) :
  Calls Tryz.prog 17 #[ptrV x,.int .i64 (k:Int)] w (CompP es n k (termE 0 0 es (k:Int)).1 x w):=by
 obtain ⟨j0,hj,hz0,hz1,hz2⟩:=info_parts infoEnt
 have hln:=h.2.2
 have hT:=termR_any x 0 0 _ n c es (k:Int) w h ⟨by omega,by omega⟩ (by omega) ⟨by omega,by omega⟩
 have hok2:(termE 0 0 es (k:Int)).2=true:=by
  unfold termE
  split
  ·rfl
  ·rw [if_pos (by omega)]
 rw [hok2] at hT
 obtain ⟨u,hu⟩:∃ t,(termE 0 0 es (k:Int)).1=t:=⟨_,rfl⟩
 rw [hu] at hT ⊢
 have HT:=Hdz hT
 have HL:=Hdz h
 have hk0:(0:Int)<=(k:Int):=by omega
 have hkn:(k:Int)<=(n:Int):=by omega
 have hnc:(n:Int)<=(c:Int):=by omega
 have hw1:IntKind.i64.wrap (k:Int)=(k:Int):=IntWalk.i64_in _ (by omega)
 clear hT hok2 hu h hln
 go_enter Tryz.func17,Tryz.ntmps17
 go_wp2_with (fail)
 go_must (refine HT.out.mono ?_)
 rintro e w1 ⟨rfl,hb1⟩
 have hL1:=HL.out.below hb1
 have b0:=hL1.1.cell 0
 have b2:=hL1.1.cell 2
 have hsl:=Sl.drop hL1.2.1 hk
 rw [flat_drop4] at hsl
 have hslx:Sl w1 4 (.slice (if c=k then some ⟨blk,off,none⟩ else some ⟨blk,off+k*4,none⟩) (n-k) (c-k)) (n-k) ((es.drop k).flatMap entCs):=by
  split
  ·rename_i hck
   have hnk:n-k=0:=by omega
   have he:es.drop k=[]:=List.drop_of_length_le (by rw [hL1.2.2];omega)
   rw [hnk,he]
   exact Sl.nil _ _ _ _
  ·exact hsl
 have hAx:(if c=k then some (⟨blk,off,none⟩:Addr) else some ⟨blk,off+k*4,none⟩)=none->c-k=0:=by
  split<;>intro e<;>cases e
 have HSx:=Hdz (Anz hslx hAx)
 have HL1:=Hdz hL1
 have HB1:=Hdz hb1
 have hz:=hb1.size
 clear hL1 hb1 hsl hslx hAx
 go_wp2_with (fail)
 refine wRz ?_
 try simp only [lAz]
 refine tA 0 ?_;try simp only [lAz]
 refine tA 1 ?_;try simp only [lAz]
 refine tA 2 ?_;try simp only [lAz]
 refine tA 3 ?_;try simp only [lAz]
 refine tA 5 ?_;try simp only [lAz]
 refine tA 6 ?_;try simp only [lAz]
 refine tA 7 ?_;try simp only [lAz]
 refine tA 8 ?_;try simp only [lAz]
 refine rA 9 (v:=?_) (hy:=?hy) ?_;case hy=>(intro w hE;have q0:=hE.cell b0;go_simp;try with_reducible rfl)
 try simp only [lAz]
 refine tA 10 ?_;try simp only [lAz]
 refine rA 4 (v:=?_) (hy:=?hy) ?_;case hy=>(intro w hE;have q0:=hE.cell b2;go_simp;try with_reducible rfl)
 try simp only [lAz]
 refine tA 11 ?_;try simp only [lAz]
 refine rZz 12 λ K hK=>?_;refine if_on rfl ?_
 go_must (refine wp_append_sl _ _ 24 rfl w.heap.size 62 j0 _ 4 40 Tryz.underlying24 hj hz0 hz1 hz2 rfl (by decide) (.slice none 0 0) 0 [] rfl (World.ownsRow_nil _ _ _ _) _ (n-k) (c-k) ((es.drop k).flatMap entCs) rfl HSx.out.1 HSx.out.2 (entCs_one _) (by unfold maxLen;omega) (by omega) hz ?_)
 intro v5 w5 own5 hg5
 have hB5:Below w1.heap.size w1 w5:=((Below.refl _ w1).drew).trans (((Keeps.refl (λ _=>False) w1.drew).grown hg5 λ k e=>by cases e).below (Nat.le_refl _) λ i hi e=>e)
 rw [Nat.zero_add,List.nil_append] at own5
 obtain ⟨A5,c5,rfl,-⟩:=Sl.of_own own5
 have bx:=HL1.out.1.below' hB5
 have z0:=bx.cell 0
 have z1:=bx.cell 1
 have z2:=bx.cell 2
 have f0:=bx.frozen 0
 have f1:=bx.frozen 1
 have f2:=bx.frozen 2
 have HO5:=Hdz own5
 have HBx:=Hdz (Anz bx (HB1.out.trans (hB5.mono HB1.out.size)))
 clear own5 hg5 hB5 bx b0 b2
 try go_simp
 apply hK
 clear hK K
 try simp only [lAz]
 refine tA 13 ?_;try simp only [lAz]
 refine tA 14 ?_;try simp only [lAz]
 refine rZz 15 λ K hK=>?_;go_simp;apply hK;clear hK K
 refine wDz ?_
 go_wp2_with (fail)
 all_goals
  go_ret
  have hk7:=(((Keeps.refl (λ j=>j=x) w5).setCell (p:=⟨x,2,none⟩) (λ _=>rfl) (.slice A5 (n-k) c5)).setCell (p:=⟨x,0,none⟩) (λ _=>rfl) (.int .i64 (k:Int))).setCell (p:=⟨x,1,none⟩) (λ _=>rfl) (.int .i64 u)
  refine ⟨_,rfl,((HBx.out.1.set 2 _).set 0 _).set 1 _,own_keeps HO5.out hk7 λ j e e2=>?_,(Keeps.of_below (S:=λ j=>j=x) HBx.out.2).trans hk7 λ _ _ e=>e⟩
  have:=(HO5.out.lt j e).1
  have:=HL.out.1.lt
  omega
def RoomP1 (w:World) (e:Ending) (w':World):Prop:=∃ r:Int,e=.returned (.int .i64 r)/\(-1<=r/\r<=60000)/\w=w'
theorem room_one (g:Nat) (T:TypeId) (x0 left:Int) (w:World) (h:Blk w g T #[.int .i64 x0]) (h0:0<=x0) (hl : -1<=left/\left<=60000) :
  Calls Tryz.prog 28 #[.int .i64 left,.slice (some ⟨g,0,none⟩) 1 1] w (RoomP1 w):=by
 have c0:w.cell? ⟨g,0,none⟩=some (.int .i64 x0):=h.cell 0
 clear h
 go_enter Tryz.func28,Tryz.ntmps28
 go_wp2_with (fail)
 go_loopg [0,5] 1 (λ gk s0 s5 wr=>∃ (r:Int) (i:Nat),s0=.int .i64 r/\s5=.int .i64 (i:Int)/\i+gk=1 ∧ -1<=r/\r<=60000/\wr=w)
 case atStart=>exact ⟨left,0,rfl,rfl,rfl,hl.1,hl.2,rfl⟩
 case round =>
  obtain ⟨r,i,rfl,rfl,hi,hr1,hr2,rfl⟩:=hrel
  by_cases h2:i<1
  ·have hi0:i=0:=by omega
   subst hi0
   have h2':((0:Nat):Int)<1:=by omega
   by_cases hn:r<0
   ·go_wp2_with (fail)
    go_ret
    exact ⟨-1,rfl,⟨by omega,by omega⟩,rfl⟩
   ·by_cases hg:r<x0
    ·go_wp2_with (fail)
     go_ret
     exact ⟨-1,rfl,⟨by omega,by omega⟩,rfl⟩
    ·have hw2:IntKind.i64.wrap (r-x0)=r-x0:=IntWalk.i64_in _ (by omega)
     go_wp2_with (fail)
     go_roundg 0
     case measure=>omega
     case rel=>exact ⟨r-x0,1,rfl,by simp,by omega,by omega,by omega,rfl⟩
  ·have h2':¬ (i:Int)<1:=by omega
   go_wp2_with (fail)
   go_ret
   exact ⟨r,rfl,⟨by omega,by omega⟩,rfl⟩
def AnyB (w:World) (e:Ending) (w':World):Prop:=(∃ b:Bool,e=.returned (.bool b))/\Below w.heap.size w w'
theorem small16_any (A:Option Addr) (n c:Nat) (l:List LogE) (w:World) (hv:Sl w 4 (.slice A n c) n (l.flatMap entCs)) (hl:l.length=n) (hml:n<=9223372036854775807) :
  Calls Tryz.prog 7 #[.slice A n c] w (AnyB w):=by
 subst hl
 have HV:=Hdz hv
 clear hv
 go_enter Tryz.func7,Tryz.ntmps7
 go_wp2_with (fail)
 go_loopg [3,4] l.length (λ gk s3 s4 wr=>∃ (r:Int) (i:Nat),s3=.int .i64 r/\s4=.int .i64 (i:Int)/\i+gk=l.length ∧ -1<=r/\r<=60000/\Hid (Below w.heap.size w wr))
 case atStart=>exact ⟨12000,0,rfl,rfl,by omega,by omega,by omega,Below.refl _ _⟩
 case round =>
  obtain ⟨r,i,rfl,rfl,hi,hr1,hr2,hbw⟩:=hrel
  obtain ⟨wo,rfl⟩:∃ wo,wo=wr:=⟨_,rfl⟩
  have hcs:¬ ((i:Int)<(l.length:Int))\/((i:Int)<(l.length:Int)/\¬ (i:Int)<600)\/((i:Int)<(l.length:Int)/\(i:Int)<600/\¬ r >= 0)\/((i:Int)<(l.length:Int)/\(i:Int)<600/\r >= 0):=by omega
  have hend:((l.length:Int)<=420/\r >= 0)\/((l.length:Int)<=420/\¬ r >= 0)\/¬ (l.length:Int)<=420:=by omega
  rcases hcs with d0 | ⟨d0,d1⟩ | ⟨d0,d1,d2⟩ | ⟨d0,d1,d2⟩
  case inr.inr.inr =>
   have h0:(0:Int)<=(i:Int):=by omega
   have h1:i<l.length:=by omega
   have hw1:IntKind.i64.wrap ((i:Int)+1)=(i:Int)+1:=IntWalk.i64_in _ (by omega)
   obtain ⟨_,_,e0,_,_,hcl⟩:=HV.out.below hbw.out
   cases e0
   obtain ⟨blk,off,rfl,hbl,hcell⟩:=hcl (by omega)
   have p1:(l.flatMap entCs)[i*4+3]? = some (strV l[i].data):=flat_at entCs_len l i 3 h1 (by omega)
   have x1:wo.cell? ⟨blk,off+i*4+3,none⟩=_:=hcell _ _ p1
   obtain ⟨dt,hdt⟩:∃ d,l[i].data=d:=⟨_,rfl⟩
   rw [hdt] at x1
   have HR:Hid (∀ W g T,Blk W g T #[.int .i64 (dt.length:Int)]->Calls Tryz.prog 28 #[.int .i64 r,.slice (some ⟨g,0,none⟩) 1 1] W (RoomP1 W)):=λ W g T hb=>room_one g T _ r W hb (by omega) ⟨hr1,hr2⟩
   clear hcell hcl p1 hdt hbl hend
   go_wp2_with (fail)
   go_must (refine (HR.out _ _ _ (Blk.new _ _ _)).mono ?_)
   rintro e w1 ⟨r',rfl,⟨q1,q2⟩,rfl⟩
   go_wp2_with (fail)
   go_roundg (gk-1)
   case measure=>omega
   case rel=>exact ⟨r',i+1,rfl,by simp,by omega,q1,q2,hbw.out.alloc hbw.out.size _⟩
  all_goals
   rcases hend with ⟨g0,g1⟩ | ⟨g0,g1⟩ | g0
   all_goals
    go_wp2_with (fail)
    go_ret
    exact ⟨⟨_,rfl⟩,hbw.out⟩
theorem room_list (g:Nat) (T:TypeId) (xs:List Int) (n:Nat) (left:Int) (w:World) (hn:xs.length=n) (h:Blk w g T (xs.map (Value.int .i64)).toArray) (h0:∀ x∈xs,0<=x) (hl : -1<=left/\left<=60000) (hn9:n<=1000) :
  Calls Tryz.prog 28 #[.int .i64 left,.slice (some ⟨g,0,none⟩) n n] w (RoomP1 w):=by
 have HB:=Hdz h
 have HN:=Hdz hn
 have H0:=Hdz h0
 clear h hn h0
 go_enter Tryz.func28,Tryz.ntmps28
 go_wp2_with (fail)
 go_loopg [0,5] n (λ gk s0 s5 wr=>∃ (r:Int) (i:Nat),s0=.int .i64 r/\s5=.int .i64 (i:Int)/\i+gk=n ∧ -1<=r/\r<=60000/\wr=w)
 case atStart=>exact ⟨left,0,rfl,rfl,by omega,hl.1,hl.2,rfl⟩
 case round =>
  obtain ⟨r,i,rfl,rfl,hi,hr1,hr2,rfl⟩:=hrel
  by_cases h2:i<n
  ·have h2':(i:Int)<(n:Int):=by omega
   have hi0:(0:Int)<=(i:Int):=by omega
   have hiL:i<xs.length:=by have:=HN.out;omega
   have c0:wr.cell? ⟨g,i,none⟩=some (.int .i64 xs[i]):=by rw [HB.out.cell i];simp [hiL]
   have hx:=H0.out _ (List.getElem_mem hiL)
   generalize xs[i]=x0 at *
   have hw1:IntKind.i64.wrap ((i:Int)+1)=(i:Int)+1:=IntWalk.i64_in _ (by omega)
   clear hiL
   by_cases hng:r<0
   ·go_wp2_with (fail)
    go_ret
    exact ⟨-1,rfl,⟨by omega,by omega⟩,rfl⟩
   ·by_cases hg:r<x0
    ·go_wp2_with (fail)
     go_ret
     exact ⟨-1,rfl,⟨by omega,by omega⟩,rfl⟩
    ·have hw2:IntKind.i64.wrap (r-x0)=r-x0:=IntWalk.i64_in _ (by omega)
     go_wp2_with (fail)
     go_roundg (gk-1)
     case measure=>omega
     case rel=>exact ⟨r-x0,i+1,rfl,by simp,by omega,by omega,by omega,rfl⟩
  ·have h2':¬ (i:Int)<(n:Int):=by omega
   go_wp2_with (fail)
   go_ret
   exact ⟨r,rfl,⟨by omega,by omega⟩,rfl⟩
def zOp:List Value:=[.int .i64 0,.int .i64 0,strV [],strV [],strV [],strV [],.slice none 0 0]
def zOps (n:Nat):List Value:=(List.replicate n ()).flatMap λ _=>zOp
theorem zOps_at {n i r:Nat} (hi:i<n) (hr:r<7):(zOps n)[i*7+r]? = zOp[r]?:=flat_at (f:=λ _:Unit=>zOp) (λ _=>rfl) (List.replicate n ()) i r (by simpa using hi) hr
theorem zOps_snoc (n:Nat):zOps (n+1)=zOps n++zOp:=by
 unfold zOps
 rw [List.replicate_succ',List.flatMap_append]
 simp
theorem light13_zero (blk off n c:Nat) (w:World) (hv:Sl w 7 (.slice (some ⟨blk,off,none⟩) n c) n (zOps n)) (hn:n<=60) :
  Calls Tryz.prog 31 #[.slice (some ⟨blk,off,none⟩) n c] w (AnyB w):=by
 have HV:=Hdz hv
 have hlen:((n:Int)<=200):=by omega
 clear hv
 go_enter Tryz.func31,Tryz.ntmps31
 go_wp2_with (fail)
 go_loopg [3,4,5] n (λ gk s3 s4 s5 wr=>∃ (r q:Int) (i:Nat),s3=.int .i64 r/\s4=.int .i64 q/\s5=.int .i64 (i:Int)/\i+gk=n/\(-1<=r/\r<=60000)/\(-1<=q/\q<=60000)/\Hid (Below w.heap.size w wr))
 case atStart=>exact ⟨60000,200,0,rfl,rfl,rfl,by omega,by omega,by omega,Below.refl _ _⟩
 case round =>
  obtain ⟨r,q,i,rfl,rfl,rfl,hi,hr,hq,hB⟩:=hrel
  obtain ⟨wo,rfl⟩:∃ wo,wo=wr:=⟨_,rfl⟩
  obtain ⟨go,rfl⟩:∃ g,g=gk:=⟨_,rfl⟩
  have hcs:¬ ((i:Int)<(n:Int))\/((i:Int)<(n:Int)/\(i:Int)<600/\¬ r >= 0)\/((i:Int)<(n:Int)/\(i:Int)<600/\r >= 0):=by omega
  have hend:(r >= 0/\q >= 0)\/(r >= 0/\¬ q >= 0)\/¬ r >= 0:=by omega
  rcases hcs with d0 | ⟨d0,d1,d2⟩ | ⟨d0,d1,d2⟩
  case inr.inr =>
   have h0:(0:Int)<=(i:Int):=by omega
   have hin:i<n:=by omega
   have hw1:IntKind.i64.wrap ((i:Int)+1)=(i:Int)+1:=IntWalk.i64_in _ (by omega)
   obtain ⟨_,_,e0,_,_,hcl⟩:=HV.out.below hB.out
   cases e0
   obtain ⟨_,_,e1,hbl,hcell⟩:=hcl (by omega)
   cases e1
   have hx:∀ k u,k<7->zOp[k]? = some u->wo.cell? ⟨blk,off+(i*7+k),none⟩=some u:=λ k u hk hu=>hcell _ _ (by rw [zOps_at hin hk];exact hu)
   have x2:wo.cell? ⟨blk,off+i*7+2,none⟩=some (strV []):=hx 2 _ (by omega) rfl
   have x3:wo.cell? ⟨blk,off+i*7+3,none⟩=some (strV []):=hx 3 _ (by omega) rfl
   have x4:wo.cell? ⟨blk,off+i*7+4,none⟩=some (strV []):=hx 4 _ (by omega) rfl
   have x5:wo.cell? ⟨blk,off+i*7+5,none⟩=some (strV []):=hx 5 _ (by omega) rfl
   have x6:wo.cell? ⟨blk,off+i*7+6,none⟩=some (.slice none 0 0):=hx 6 _ (by omega) rfl
   have HX6:Hid (∀ W,Below wo.heap.size wo W->W.cell? ⟨blk,off+i*7+6,none⟩=some (.slice none 0 0)):=λ W hb=>(hb.cell (p:=⟨blk,off+i*7+6,none⟩) hbl).trans x6
   have HR5:Hid (∀ W g T,Blk W g T #[.int .i64 0,.int .i64 0,.int .i64 0,.int .i64 0,.int .i64 0]->Calls Tryz.prog 28 #[.int .i64 r,.slice (some ⟨g,0,none⟩) 5 5] W (RoomP1 W)):=λ W g T hb=>room_list g T [0,0,0,0,0] 5 r W rfl hb (by simp) hr (by omega)
   have HR1:Hid (∀ W g T,Blk W g T #[.int .i64 0]->Calls Tryz.prog 28 #[.int .i64 q,.slice (some ⟨g,0,none⟩) 1 1] W (RoomP1 W)):=λ W g T hb=>room_list g T [0] 1 q W rfl hb (by simp) hq (by omega)
   clear hx hcell hcl hend hbl
   go_wp2_with (fail)
   refine wRz ?_
   try simp only [lAz]
   refine tA 0 ?_;try simp only [lAz]
   refine tA 1 ?_;try simp only [lAz]
   refine tA 2 ?_;try simp only [lAz]
   refine tA 3 ?_;try simp only [lAz]
   refine tA 4 ?_;try simp only [lAz]
   refine tA 7 ?_;try simp only [lAz]
   refine tA 8 ?_;try simp only [lAz]
   refine tA 9 ?_;try simp only [lAz]
   refine tA 10 ?_;try simp only [lAz]
   refine tA 13 ?_;try simp only [lAz]
   refine tA 14 ?_;try simp only [lAz]
   refine tA 15 ?_;try simp only [lAz]
   refine tA 16 ?_;try simp only [lAz]
   refine tA 19 ?_;try simp only [lAz]
   refine tA 20 ?_;try simp only [lAz]
   refine tA 21 ?_;try simp only [lAz]
   refine tA 22 ?_;try simp only [lAz]
   refine tA 25 ?_;try simp only [lAz]
   refine tA 26 ?_;try simp only [lAz]
   refine tA 27 ?_;try simp only [lAz]
   refine tA 28 ?_;try simp only [lAz]
   refine rA 5 (v:=?_) (hy:=?hy) ?_;case hy=>(intro w hE;have q0:=hE.cell x2;go_simp;try with_reducible rfl)
   try simp only [lAz]
   refine rA 11 (v:=?_) (hy:=?hy) ?_;case hy=>(intro w hE;have q0:=hE.cell x3;go_simp;try with_reducible rfl)
   try simp only [lAz]
   refine rA 17 (v:=?_) (hy:=?hy) ?_;case hy=>(intro w hE;have q0:=hE.cell x4;go_simp;try with_reducible rfl)
   try simp only [lAz]
   refine rA 23 (v:=?_) (hy:=?hy) ?_;case hy=>(intro w hE;have q0:=hE.cell x5;go_simp;try with_reducible rfl)
   try simp only [lAz]
   refine rA 29 (v:=?_) (hy:=?hy) ?_;case hy=>(intro w hE;have q0:=hE.cell x6;go_simp;try with_reducible rfl)
   try simp only [lAz]
   refine tA 6 ?_;try simp only [lAz]
   refine tA 12 ?_;try simp only [lAz]
   refine tA 18 ?_;try simp only [lAz]
   refine tA 24 ?_;try simp only [lAz]
   refine tA 30 ?_;try simp only [lAz]
   refine rZz 31 λ K hK=>?_;go_simp;apply hK;clear hK K
   refine rZz 32 λ K hK=>?_;go_simp
   (go_must (refine (HR5.out _ _ _ (Blk.new _ _ _).drew).mono ?_);rintro e w1 ⟨r',rfl,⟨q1,q2⟩,rfl⟩)
   go_simp
   apply hK
   clear hK K
   refine rZz 33 λ K hK=>?_;go_simp;apply hK;clear hK K
   refine wDz ?_
   have hb3:Below wo.heap.size wo (wo.alloc (.cells #[.int .i64 0,.int .i64 0,.int .i64 0,.int .i64 0,.int .i64 0] 3)).drew:=((Below.refl _ _).alloc (Nat.le_refl _) _).drew
   obtain ⟨w4,hw4⟩:=nmz ((wo.alloc (.cells #[.int .i64 0,.int .i64 0,.int .i64 0,.int .i64 0,.int .i64 0] 3)).drew)
   rw [hw4] at hb3 ⊢
   have y6:=HX6.out w4 hb3
   have HB3:=Hdz hb3
   clear hw4 hb3 x2 x3 x4 x5 x6
   go_wp2_with (fail)
   go_must (refine (HR1.out _ _ _ (Blk.new _ _ _)).mono ?_)
   rintro e w5 ⟨q',rfl,⟨q3,q4⟩,rfl⟩
   have hb5:Below wo.heap.size wo (w4.alloc (.cells #[.int .i64 0] 3)):=HB3.out.alloc HB3.out.size _
   obtain ⟨w5,hw5⟩:=nmz (w4.alloc (.cells #[.int .i64 0] 3))
   rw [hw5] at hb5 ⊢
   have HB5:=Hdz hb5
   clear hw5 hb5 y6
   go_wp2_with (fail)
   go_loopg [3,6] 0 (λ gk s3 s6 wr=>s3=.int .i64 r'/\s6=.int .i64 0/\wr=w5)
   case atStart=>exact ⟨rfl,rfl,rfl⟩
   case round =>
    obtain ⟨rfl,rfl,rfl⟩:=hrel
    have y6:=HX6.out _ HB5.out
    go_wp2_with (fail)
    go_roundg (go-1)
    case measure=>omega
    case rel=>exact ⟨r',q',i+1,rfl,rfl,by simp,by omega,⟨q1,q2⟩,⟨q3,q4⟩,hB.out.trans (HB5.out.mono hB.out.size)⟩
  all_goals
   rcases hend with ⟨g0,g1⟩ | ⟨g0,g1⟩ | g0
   all_goals
    go_wp2_with (fail)
    go_ret
    exact ⟨⟨_,rfl⟩,hB.out⟩
def svOp (A:Option Addr) (n c:Nat):List Value:=[.int .i64 0,.int .i64 0,.int .i64 0,.int .i64 0,.bool false,.int .i64 0,.slice A n c,.int .i64 0,.int .i64 0,.slice none 0 0,.bool false,.int .i64 0,.slice none 0 0,.int .i64 0,.int .i64 0,strV [],strV [],strV [],strV [],.slice none 0 0]
theorem zop_row (w:World) (T:TypeId):∀ j v,zOp[j]? = some v->(w.alloc (.cells #[.int .i64 0,.int .i64 0,strV [],strV [],strV [],strV [],.slice none 0 0] T)).cell? ((⟨w.heap.size,0,none⟩:Addr).add j)=some v:=by
 intro j v h
 have hb:=Blk.new w T #[.int .i64 0,.int .i64 0,strV [],strV [],strV [],strV [],.slice none 0 0]
 rw [addr_add]
 rw [Nat.zero_add,hb.cell j]
 unfold zOp at h
 simpa using h
theorem infoOp13:(Tryz.prog.info? 42).map (λ i=>(i.zero,i.size,i.bytes))=some (some (.agg #[.int .i64 0,.int .i64 0,strV [],strV [],strV [],strV [],.slice none 0 0]),7,104):=by kernel_rfl
def Light19P (l1 l2:List LogE) (w:World) (e:Ending) (w':World):Prop:=(∃ b:Bool,e=.returned (.bool b)/\(b=true->∀ o∈l1++l2,o.data.length<=900))/\Below w.heap.size w w'
theorem light19_any (g:Nat) (T:TypeId) (A1 A2:Option Addr) (n1 c1 n2 c2:Nat) (l1 l2:List LogE) (w:World) (hb:Blk w g T (svOp A1 n1 c1++svOp A2 n2 c2).toArray) (hv1:Sl w 4 (.slice A1 n1 c1) n1 (l1.flatMap entCs)) (hl1:l1.length=n1) (hv2:Sl w 4 (.slice A2 n2 c2) n2 (l2.flatMap entCs)) (hl2:l2.length=n2) (h1:n1<=30) (h2:n2<=30) :
  Calls Tryz.prog 12 #[.slice (some ⟨g,0,none⟩) 2 2] w (Light19P l1 l2 w):=by
 obtain ⟨j0,hj,hz0,hz1,hz2⟩:=info_parts infoOp13
 have HB:=Hdz hb
 have HA:Hid (∀ i,i<2->∃ A n c l,Sl w 4 (.slice A n c) n (l.flatMap entCs)/\l.length=n/\n<=30/\l=(if i=0 then l1 else l2)/\(∀ r u,(svOp A n c)[r]? = some u->w.cell? ⟨g,i*20+r,none⟩=some u)):=λ i hi=>by
  match i,hi with
  | 0,_ =>
   refine ⟨A1,n1,c1,l1,hv1,hl1,h1,rfl,λ r u hu=>?_⟩
   have hr:r<20:=(List.getElem?_eq_some_iff.1 hu).1
   rw [show 0*20+r=r by omega,hb.cell r]
   simp only [List.getElem?_toArray]
   rw [List.getElem?_append_left (by exact hr)]
   exact hu
  | 1,_ =>
   refine ⟨A2,n2,c2,l2,hv2,hl2,h2,rfl,λ r u hu=>?_⟩
   rw [show 1*20+r=20+r by omega,hb.cell (20+r)]
   simp only [List.getElem?_toArray]
   rw [List.getElem?_append_right (by show 20<=20+r;omega),show 20+r-(svOp A1 n1 c1).length=r by show 20+r-20=r;omega]
   exact hu
 clear hb hv1 hl1 hv2 hl2
 go_enter Tryz.func12,Tryz.ntmps12
 go_wp2_with (fail)
 go_loopg [3,4] 2 (λ gk s3 s4 wr=>∃ (i:Nat) (A:Option Addr) (c:Nat),s3=.slice A i c/\s4=.int .i64 (i:Int)/\i+gk=2/\Hid (∀ j,j<i->∀ o∈(if j=0 then l1 else l2),o.data.length<=900)/\Hid (wr.ownsRow w.heap.size 42 7 (.slice A i c) i (zOps i))/\Hid (Below w.heap.size w wr))
 case atStart=>exact ⟨0,none,0,rfl,rfl,rfl,(λ j hj=>by omega),World.ownsRow_nil _ _ _ _,Below.refl _ _⟩
 case round =>
  obtain ⟨i,A,c,rfl,rfl,hi,hD,hO,hB⟩:=hrel
  obtain ⟨wo,rfl⟩:∃ wo,wo=wr:=⟨_,rfl⟩
  obtain ⟨go,rfl⟩:∃ g,g=gk:=⟨_,rfl⟩
  by_cases hin:i<2
  ·have d0:(i:Int)<2:=by omega
   have d1:(i:Int)<200:=by omega
   have h0:(0:Int)<=(i:Int):=by omega
   obtain ⟨Ae,n,ce,l,hv,hl,hn,hle,hcl⟩:=HA.out i hin
   have hgl:g<w.heap.size:=HB.out.lt
   have HC:Hid (∀ W,Below w.heap.size w W->W.cell? ⟨g,i*20+6,none⟩=some (.slice Ae n ce)/\W.cell? ⟨g,i*20+9,none⟩=some (.slice none 0 0)/\W.cell? ⟨g,i*20+12,none⟩=some (.slice none 0 0)/\W.cell? ⟨g,i*20+13,none⟩=some (.int .i64 0)/\W.cell? ⟨g,i*20+14,none⟩=some (.int .i64 0)/\W.cell? ⟨g,i*20+15,none⟩=some (strV [])/\W.cell? ⟨g,i*20+16,none⟩=some (strV [])/\W.cell? ⟨g,i*20+17,none⟩=some (strV [])/\W.cell? ⟨g,i*20+18,none⟩=some (strV [])/\W.cell? ⟨g,i*20+19,none⟩=some (.slice none 0 0)):=λ W hb=>by
    have q:∀ r u,(svOp Ae n ce)[r]? = some u->W.cell? ⟨g,i*20+r,none⟩=some u:=λ r u hu=>(hb.cell (p:=⟨g,i*20+r,none⟩) hgl).trans (hcl r u hu)
    exact ⟨q 6 _ rfl,q 9 _ rfl,q 12 _ rfl,q 13 _ rfl,q 14 _ rfl,q 15 _ rfl,q 16 _ rfl,q 17 _ rfl,q 18 _ rfl,q 19 _ rfl⟩
   have HV:=Hdz (Anz hv (Anz hl hle))
   obtain ⟨x6,x9,x12,-⟩:=HC.out wo hB.out
   have HSm:=Hdz (small16_any Ae n ce l wo (hv.below hB.out) hl (by omega))
   have d2:¬ (n:Int) > 30:=by omega
   have hw1:IntKind.i64.wrap ((i:Int)+1)=(i:Int)+1:=IntWalk.i64_in _ (by omega)
   clear hv hl hle hcl hgl
   go_wp2_with (fail)
   go_must (refine HSm.out.mono ?_)
   rintro e w1 ⟨⟨b,rfl⟩,hb1⟩
   have HB1:=Hdz (hB.out.trans (hb1.mono hB.out.size))
   obtain ⟨y6,y9,y12,-⟩:=HC.out w1 HB1.out
   have HO1:=Hdz (own_below hO.out hb1)
   clear hb1 x6 x9 x12
   cases b
   ·go_wp2_with (fail)
    go_ret
    exact ⟨⟨false,rfl,λ e=>by cases e⟩,HB1.out⟩
   ·go_wp2_with (fail)
    go_loopg [5] n (λ gk s5 wr=>∃ k:Nat,s5=.int .i64 (k:Int)/\k+gk=n/\Hid (∀ o∈l.take k,o.data.length<=900)/\wr=w1)
    case atStart=>exact ⟨0,rfl,by omega,(λ o ho=>by cases ho),rfl⟩
    case round =>
     obtain ⟨k,rfl,hk,hDk,rfl⟩:=hrel
     by_cases hkn:k<n
     ·have f0:(0:Int)<=(k:Int):=by omega
      have f1:(k:Int)<(n:Int):=by omega
      have hkL:k<l.length:=by have:=HV.out.2.1;omega
      obtain ⟨blk,off,rfl,-,-,-,-,k3⟩:=ent_cells (HV.out.1.below HB1.out) hkn hkL
      have htk:l.take (k+1)=l.take k++[l[k]]:=List.take_succ_eq_append_getElem hkL
      have HTk:=Hdz htk
      obtain ⟨dt,hdt⟩:∃ d,(l[k]).data=d:=⟨_,rfl⟩
      have HDt:=Hdz hdt
      rw [hdt] at k3
      have hw2:IntKind.i64.wrap ((k:Int)+1)=(k:Int)+1:=IntWalk.i64_in _ (by omega)
      have HkL:=Hdz hkL
      clear htk hdt
      by_cases hlg:(dt.length:Int) > 900
      ·go_wp2_with (fail)
       go_ret
       exact ⟨⟨false,rfl,λ e=>by cases e⟩,HB1.out⟩
      ·have HLg:=Hdz hlg
       go_wp2_with (fail)
       go_roundg (gk-1)
       case measure=>omega
       case rel=>exact ⟨k+1,by simp,by omega,(λ o ho=>by
        rw [HTk.out] at ho
        rcases List.mem_append.1 ho with h3 | h3
        ·exact hDk.out o h3
        ·simp only [List.mem_cons,List.not_mem_nil,or_false] at h3
         subst h3
         rw [HDt.out]
         have:=HLg.out
         omega),rfl⟩
     ·have f1:¬ (k:Int)<(n:Int):=by omega
      have HDall:Hid (∀ o∈l,o.data.length<=900):=by
       have h3:=hDk.out
       rw [List.take_of_length_le (by have:=HV.out.2.1;omega)] at h3
       exact h3
      obtain ⟨-,-,-,y13,y14,y15,y16,y17,y18,y19⟩:=HC.out _ HB1.out
      clear hDk
      obtain ⟨w1,rfl⟩:∃ we,we=wr:=⟨_,rfl⟩
      have hb4:Below w1.heap.size w1 (w1.alloc (.cells #[.int .i64 0,.int .i64 0,strV [],strV [],strV [],strV [],.slice none 0 0] 42)):=(Below.refl _ _).alloc (Nat.le_refl _) _
      have hown:=own_below HO1.out hb4
      have HBT:Hid (Below w.heap.size w (w1.alloc (.cells #[.int .i64 0,.int .i64 0,strV [],strV [],strV [],strV [],.slice none 0 0] 42))):=HB1.out.trans (hb4.mono HB1.out.size)
      have HOw:=Hdz hown
      have hsz:=HBT.out.size
      clear hb4
      go_wp2_with (at_builtin;go_must (refine wpList_append_at rfl _ _ 90 rfl w.heap.size 42 j0 _ 7 104 Tryz.underlying90 hj hz0 hz1 hz2 rfl (by decide) _ i _ rfl hown ⟨w1.heap.size,0,none⟩ 1 1 zOp rfl rfl (zop_row w1 _) (by simp [zOp,Value.oneCell']) (by unfold maxLen;omega) (by omega) hsz ?_))
      intro v8 w8 own8 hg8 hat8
      obtain ⟨A8,c8,rfl,-⟩:=Sl.of_own own8
      have HB8:Hid (Below w.heap.size w w8):=HBT.out.trans (((Keeps.refl (λ k2=>(Value.slice A i c).ownBlock=some k2) _).grown hg8 λ k e _=>e).below HBT.out.size λ k hk e=>by have:=(HOw.out.lt k e).1;omega)
      have HO8:Hid (w8.ownsRow w.heap.size 42 7 (.slice A8 (i+1) c8) (i+1) (zOps (i+1))):=by
       show World.ownsRow _ _ _ _ _ _ _
       rw [zOps_snoc]
       simpa using own8
      clear own8 hg8 hat8 hown hsz
      go_wp2_with (fail)
      go_roundg (go-1)
      case measure=>omega
      case rel=>exact ⟨i+1,A8,c8,rfl,by simp,by omega,(λ j hj o ho=>by
       rcases Nat.lt_or_ge j i with h3 | h3
       ·exact hD.out j h3 o ho
       ·have:j=i:=by omega
        subst this
        rw [<- HV.out.2.2] at ho
        exact HDall.out o ho),HO8.out,HB8.out⟩
  ·have d0:¬ (i:Int)<2:=by omega
   have he:i=2:=by omega
   subst he
   obtain ⟨_,_,e0,_,_,hcl⟩:=Sl.of_own hO.out
   cases e0
   obtain ⟨blk,off,rfl,hbl,hcell⟩:=hcl (by omega)
   have HL:=Hdz (light13_zero blk off 2 c wo (Sl.of_own hO.out) (by omega))
   have HFin:Hid (∀ o∈l1++l2,o.data.length<=900):=λ o ho=>by
    rcases List.mem_append.1 ho with h3 | h3
    ·exact hD.out 0 (by omega) o h3
    ·exact hD.out 1 (by omega) o h3
   clear hcl hcell hbl hD hO
   go_wp2_with (fail)
   go_must (refine HL.out.mono ?_)
   rintro e w5 ⟨⟨b,rfl⟩,hb5⟩
   have HB5:=Hdz (hB.out.trans (hb5.mono hB.out.size))
   clear hb5
   go_wp2_with (fail)
   go_ret
   exact ⟨⟨_,rfl,λ _=>HFin.out⟩,HB5.out⟩
end Go.Ev
