/-
  Texts of this claim.
-/
import Derived.Test.YtmfoiaaehkandaaGreatDoorMBGwPick
import Derived.Test.YtmfoiaaehkandaaGreatDoorMBGwWork
import Derived.Carry
import Derived.Deep.DeepCutAuto
set_option linter.unusedVariables false
set_option linter.unusedSimpArgs false
set_option maxHeartbeats 8000000
set_option maxRecDepth 100000
namespace Go.Ev
open Go.Proofs Go.RowKit
theorem sl_blk {W:World} {g:Nat} {T:TypeId} (l:List Value) (h:Blk W g T l.toArray):Sl W 1 (.slice (some ⟨g,0,none⟩) l.length l.length) l.length l:=
 ⟨_,_,rfl,Nat.le_refl _,by omega,λ _=>⟨_,_,rfl,h.lt,λ j u hu=>by
  rw [Nat.zero_add,h.cell j]
  simpa using hu⟩⟩
theorem cat_bytes (a b:Bytes):(⟨a.toArray⟩:ByteArray)++⟨b.toArray⟩=⟨(a++b).toArray⟩:=by
 apply ByteArray.ext
 simp
theorem keepKey_ok (v:Nat) (w:World) (h1:v<=99999999) :
  Calls Tryz.prog 48 #[.int .i64 (v:Int)] w λ e w'=>e=.returned (strV (dig 8 v))/\Below w.heap.size w w':=by
 obtain ⟨e8,l8⟩:=dec_dig 7 v (by omega)
 have HD:=Hdz (digits_ok v w h1)
 obtain ⟨t,ht⟩:=nmz (decB v)
 rw [ht] at HD e8 l8
 obtain ⟨ln,hln⟩:=nmz (t.length)
 have HE:=Hdz (Anz e8 hln)
 rw [hln] at l8
 have em:(8:Int)-(ln:Int)=((8-ln:Nat):Int):=by omega
 obtain ⟨m,hm⟩:=nmz (8-ln)
 rw [hm] at em
 have hm8:m<=8:=by omega
 have hw:IntKind.i64.wrap (m:Int)=(m:Int):=IntWalk.i64_in _ (by omega)
 have hmax:max (m:Int) 0=(m:Int):=by omega
 have HM:=Hdz hm
 clear e8 ht hm
 go_enter Tryz.func48,Tryz.ntmps48
 go_wp2_with (fail)
 go_must (refine HD.out.mono ?_)
 rintro e w1 ⟨rfl,hb1⟩
 have HB1:=Hdz hb1
 clear hb1
 go_wp2_with (fail)
 go_must (refine (rep_zeros m w1 hm8).mono ?_)
 rintro e w2 ⟨rfl,hb2⟩
 have HB2:=Hdz (HB1.out.trans (hb2.mono HB1.out.size))
 clear hb2
 go_wp2_with (fail)
 go_ret
 refine ⟨?_,HB2.out⟩
 have:=HE.out.1
 rw [HE.out.2,show 7+1-ln=m from HM.out] at this
 rw [<- this]
 have e:(⟨Array.replicate m 48⟩:ByteArray)++⟨t.toArray⟩=⟨(List.replicate m 48++t).toArray⟩:=by
  apply ByteArray.ext
  simp
 exact congrArg (λ s=>Ending.returned (.string s)) e
structure ValidM (l:List Int):Prop where
 len:1<=l.length/\l.length<=9
 ids:∀ i (h:i<l.length),1<=l[i]/\l[i]<=64
 rise:∀ i (h:i+1<l.length),l[i]<l[i+1]
theorem isId_ok (n:Int) (w:World) (h1:1<=n) (h2:n<=64):Calls Tryz.prog 79 #[.int .i64 n] w λ e w'=>e=.returned (.bool true)/\w=w':=by
 go_enter Tryz.func79,Tryz.ntmps79
 go_wp2
 go_ret
 exact ⟨rfl,rfl⟩
theorem validM_ok (A:Option Addr) (n c:Nat) (l:List Int) (w:World) (hv:Sl w 1 (.slice A n c) n (intsV l)) (hl:l.length=n) (h:ValidM l) :
  Calls Tryz.prog 34 #[.slice A n c] w λ e w'=>e=.returned (.bool true)/\w=w':=by
 subst hl
 obtain ⟨⟨h1,h2⟩,hids,hrise⟩:=h
 have d1:¬ (l.length:Int)<1:=by omega
 have d2:¬ (9:Int)<(l.length:Int):=by omega
 have HI:=Hdz hids
 have HR:=Hdz hrise
 obtain ⟨_,_,e0,_,_,hcl⟩:=hv
 cases e0
 obtain ⟨blk,off,rfl,hbl,hcell⟩:=hcl (by omega)
 have HC:=Hdz hcell
 clear hids hrise hcl hcell
 go_enter Tryz.func34,Tryz.ntmps34
 go_wp2_with (fail)
 go_loopg [15] l.length (λ gk s15 wr=>∃ i:Nat,s15=.int .i64 (i:Int)/\i+gk=l.length/\wr=w)
 case atStart=>exact ⟨0,rfl,by omega,rfl⟩
 case round =>
  obtain ⟨i,rfl,hi,rfl⟩:=hrel
  by_cases hlt:i<l.length
  ·have h1':(i:Int)<(l.length:Int):=by omega
   have hi0:(0:Int)<=(i:Int):=by omega
   have hw1:IntKind.i64.wrap ((i:Int)+1)=(i:Int)+1:=IntWalk.i64_in _ (by omega)
   have x0:wr.cell? ⟨blk,off+i,none⟩=some (.int .i64 l[i]):=by
    have:=HC.out i (.int .i64 l[i]) (by unfold intsV;rw [List.getElem?_map,List.getElem?_eq_getElem hlt];rfl)
    exact this
   have hid:=HI.out i hlt
   cases i with
   | zero =>
    obtain ⟨m,hm⟩:=nmz (l[0])
    rw [hm] at x0 hid
    have HIs:=Hdz (isId_ok m wr hid.1 hid.2)
    simp only [Nat.add_zero] at x0
    clear hid hm
    go_wp2_with (fail)
    go_must (refine HIs.out.mono ?_)
    rintro e w1 ⟨rfl,rfl⟩
    go_wp2_with (fail)
    go_roundg (gk-1)
    case measure=>omega
    case rel=>exact ⟨1,rfl,by omega,rfl⟩
   | succ j =>
    have y0:wr.cell? ⟨blk,off+j,none⟩=some (.int .i64 l[j]):=by
     have:=HC.out j (.int .i64 l[j]) (by unfold intsV;rw [List.getElem?_map,List.getElem?_eq_getElem (by omega)];rfl)
     exact this
    have hr:=HR.out j hlt
    obtain ⟨m,hm⟩:=nmz (l[j+1])
    obtain ⟨m0,hm0⟩:∃ m,l[j]'(by omega)=m:=⟨_,rfl⟩
    rw [hm] at x0 hid hr
    rw [hm0] at y0 hr
    have HIs:=Hdz (isId_ok m wr hid.1 hid.2)
    have hle:¬ m<=m0:=by omega
    have hj0:(0:Int)<((j+1:Nat):Int):=by omega
    have hsub:IntKind.i64.wrap (((j+1:Nat):Int)-1)=(j:Int):=by rw [IntWalk.i64_in _ (by omega)];omega
    have hjj:(0:Int)<=(j:Int):=by omega
    have hjl:(j:Int)<(l.length:Int):=by omega
    have hw2:IntKind.i64.wrap (j:Int)=(j:Int):=IntWalk.i64_in _ (by omega)
    clear hid hm hm0 hr
    go_wp2_with (fail)
    go_must (refine HIs.out.mono ?_)
    rintro e w1 ⟨rfl,rfl⟩
    go_wp2_with (fail)
    go_roundg (gk-1)
    case measure=>omega
    case rel=>exact ⟨j+1+1,by simp,by omega,rfl⟩
  ·have h1':¬ (i:Int)<(l.length:Int):=by omega
   go_wp2_with (fail)
   go_ret
   exact ⟨rfl,rfl⟩
def memB (l:List Int):Bytes:=varsB [(l.length:Int)]++varsB l
theorem putMembers_ok (A:Option Addr) (n c:Nat) (l:List Int) (w:World) (hv:Sl w 1 (.slice A n c) n (intsV l)) (hl:l.length=n) (hI:∀ x∈l,I64 x) (hn:n<=900) :
  Calls Tryz.prog 85 #[.slice A n c] w λ e w'=>e=.returned (strV (memB l))/\Below w.heap.size w w':=by
 subst hl
 have h1:=varsB_len [(l.length:Int)] (by intro x hx;simp at hx;subst hx;exact ⟨by omega,by omega⟩)
 have h2:=varsB_len l hI
 have HL:Hid ((varsB [(l.length:Int)]).length<=1000/\(varsB l).length<=100000):=by
  show _/\_
  simp only [List.length_cons,List.length_nil] at h1
  exact ⟨by omega,by omega⟩
 have HV:=Hdz (λ W g (hs:Sl W 1 (.slice (some ⟨g,0,none⟩) 1 1) 1 [.int .i64 (l.length:Int)])=>vars_any (some ⟨g,0,none⟩) 1 1 [(l.length:Int)] W hs (by intro x hx;simp at hx;subst hx;exact ⟨by omega,by omega⟩) (by omega))
 have HW:=Hdz (λ W (hb:Below w.heap.size w W)=>vars_any A l.length c l W (hv.below hb) hI (by omega))
 have HB:Hid (Below w.heap.size w (w.alloc (.cells #[.int .i64 (l.length:Int)] 3))):=(Below.refl _ _).alloc (Nat.le_refl _) _
 have HS:Hid (Sl (w.alloc (.cells #[.int .i64 (l.length:Int)] 3)) 1 (.slice (some ⟨w.heap.size,0,none⟩) 1 1) 1 [.int .i64 (l.length:Int)]):=sl_blk (T:=3) [.int .i64 (l.length:Int)] (Blk.new _ _ _)
 obtain ⟨va,hva⟩:∃ v,varsB [(l.length:Int)]=v:=⟨_,rfl⟩
 obtain ⟨vb,hvb⟩:∃ v,varsB l=v:=⟨_,rfl⟩
 have HE:Hid (memB l=va++vb):=by show memB l=_;unfold memB;rw [hva,hvb]
 rw [hva,hvb] at HL
 rw [hva] at HV
 rw [hvb] at HW
 have hs3:¬ 9223372036854775807<va.length+vb.length:=by have:=HL.out;omega
 clear h1 h2 hva hvb hv
 go_enter Tryz.func85,Tryz.ntmps85
 go_wp2_with (fail)
 go_must (refine (HV.out _ _ HS.out).mono ?_)
 rintro e w1 ⟨rfl,hb1⟩
 have HB1:=Hdz (HB.out.trans (hb1.mono HB.out.size))
 clear hb1
 go_wp2_with (fail)
 go_must (refine (HW.out _ HB1.out).mono ?_)
 rintro e w2 ⟨rfl,hb2⟩
 have HB2:=Hdz (HB1.out.trans (hb2.mono HB1.out.size))
 clear hb2
 go_wp2_with (fail)
 go_ret
 exact ⟨by rw [HE.out];exact congrArg (λ s=>Ending.returned (.string s)) (cat_bytes va vb),HB2.out⟩
structure LogE where
 idx:Int
 term:Int
 kind:Int
 data:Bytes
def entCs (o:LogE):List Value:=[.int .i64 o.idx,.int .i64 o.term,.int .i64 o.kind,strV o.data]
def entL (o:LogE):Bytes:=varsB [o.idx,o.term,o.kind]++textsB [o.data]
def entB (o:LogE):Bytes:=varsB [1]++entL o
structure EntOk (o:LogE):Prop where
 idx:I64 o.idx
 term:I64 o.term
 kind:I64 o.kind
 data:o.data.length<=2200
theorem entPut_ok (A:Option Addr) (c:Nat) (o:LogE) (w:World) (hv:Sl w 4 (.slice A 1 c) 1 (entCs o)) (h:EntOk o) :
  Calls Tryz.prog 50 #[.slice A 1 c] w λ e w'=>e=.returned (strV (entB o))/\Below w.heap.size w w':=by
 have hT0:(textsB [o.data]).length<=100000:=by
  have h5:=h.data
  have e2:=(varB_len (o.data.length:Int) ⟨by omega,by omega⟩).2
  simp only [textsB,textB,List.length_append,List.length_nil]
  omega
 have hI3:∀ y∈[o.idx,o.term,o.kind],I64 y:=by
  intro y hy
  simp only [List.mem_cons,List.not_mem_nil,or_false] at hy
  rcases hy with rfl | rfl | rfl
  ·exact h.idx
  ·exact h.term
  ·exact h.kind
 have hV0:(varsB [o.idx,o.term,o.kind]).length<=100000:=by
  have:=varsB_len _ hI3
  simp only [List.length_cons,List.length_nil] at this
  omega
 have HV:Hid (∀ W g,Sl W 1 (.slice (some ⟨g,0,none⟩) 3 3) 3 [.int .i64 o.idx,.int .i64 o.term,.int .i64 o.kind]->Calls Tryz.prog 84 #[.slice (some ⟨g,0,none⟩) 3 3] W λ e w'=>e=.returned (strV (varsB [o.idx,o.term,o.kind]))/\Below W.heap.size W w'):=λ W g hs=>vars_any _ 3 3 _ W hs hI3 (by omega)
 have HT:Hid (∀ W g,Sl W 1 (.slice (some ⟨g,0,none⟩) 1 1) 1 [strV o.data]->Calls Tryz.prog 93 #[.slice (some ⟨g,0,none⟩) 1 1] W λ e w'=>e=.returned (strV (textsB [o.data]))/\Below W.heap.size W w'):=λ W g hs=>texts_any _ 1 1 _ W hs hT0 (by omega)
 have HV1:Hid (∀ W g,Sl W 1 (.slice (some ⟨g,0,none⟩) 1 1) 1 [.int .i64 1]->Calls Tryz.prog 84 #[.slice (some ⟨g,0,none⟩) 1 1] W λ e w'=>e=.returned (strV (varsB [1]))/\Below W.heap.size W w'):=λ W g hs=>vars_any _ 1 1 [1] W hs (by intro x hx;simp at hx;subst hx;exact ⟨by omega,by omega⟩) (by omega)
 have h11:(varsB [1]).length<=1000:=by have:=varsB_len [1] (by intro x hx;simp at hx;subst hx;exact ⟨by omega,by omega⟩);simp at this;omega
 obtain ⟨v1,hv1⟩:∃ v,varsB [1]=v:=⟨_,rfl⟩
 obtain ⟨vb,hvb⟩:=nmz (varsB [o.idx,o.term,o.kind])
 obtain ⟨tb,htb⟩:=nmz (textsB [o.data])
 rw [hvb] at HV
 rw [htb] at HT
 rw [hv1] at HV1 h11
 have HL:Hid (entB o=v1++(vb++tb)):=by show entB o=_;unfold entB entL;rw [hv1,hvb,htb]
 have l2:tb.length<=100000:=by rw [<- htb];exact hT0
 have l1:vb.length<=100000:=by rw [<- hvb];exact hV0
 have l3:¬ 9223372036854775807<vb.length+tb.length:=by omega
 have HSl:=Hdz hv
 have HB0:=Hdz (Bd.new w)
 have hb0:Below w.heap.size w (w.alloc (.cells #[.pointer none,.slice none 0 0] 161)):=(Below.refl _ _).alloc (Nat.le_refl _) _
 have HBl0:=Hdz hb0
 obtain ⟨wb,hwb⟩:=nmz (w.alloc (.cells #[.pointer none,.slice none 0 0] 161))
 rw [hwb] at HB0 HBl0
 obtain ⟨b,hbb⟩:=nmz (w.heap.size)
 have HWb:=Hdz (Anz hwb hbb)
 rw [hbb] at HB0
 have HBase:Hid (b<=wb.heap.size):=by rw [<- hbb];exact HBl0.out.size
 clear hvb htb hv1 hT0 hV0 hI3 h hv hb0 hwb hbb
 go_enter Tryz.func50,Tryz.ntmps50
 go_upto_region 2 with fail
 rw [HWb.out.1,HWb.out.2]
 go_wp2_with (fail)
 have hS1:Sl (wb.alloc (.cells #[.int .i64 1] 3)) 1 (.slice (some ⟨wb.heap.size,0,none⟩) 1 1) 1 [.int .i64 1]:=sl_blk (T:=3) [.int .i64 1] (Blk.new _ _ _)
 have hbA:Below wb.heap.size wb (wb.alloc (.cells #[.int .i64 1] 3)):=(Below.refl _ _).alloc (Nat.le_refl _) _
 go_must (refine (HV1.out _ _ hS1).mono ?_)
 rintro e w1 ⟨rfl,hb1⟩
 have hB1:=(HB0.out.below hbA).below hb1
 have HB1:Hid (Below w.heap.size w w1):=HBl0.out.trans ((hbA.trans (hb1.mono hbA.size)).mono HBl0.out.size)
 have hbz:b<=w1.heap.size:=by have:=HB1.out.size;have:=HWb.out.2;omega
 have HW:=Hdz (bw_string hB1 v1 (by simp;omega) hbz)
 have HBd1:=Hdz hB1
 have HBz:=Hdz hbz
 clear hS1 hbA hb1 hB1 hbz
 go_wp2_with (fail)
 go_must (refine HW.out.mono ?_)
 rintro e w2 ⟨rfl,⟨F2,hB2⟩,K2⟩
 rw [List.nil_append] at hB2
 have HB2:Hid (Below w.heap.size w w2):=HB1.out.trans (by rw [HWb.out.2];exact HBd1.out.below_of K2 HBz.out)
 have HD2:=Hdz hB2
 clear hB2 K2 HW HBd1 HBz
 go_wp2_with (fail)
 go_loopg [13] 1 (λ gk s13 wr=>∃ (i:Nat) (F:Option Nat) (l:Bytes),s13=.int .i64 (i:Int)/\i+gk=1/\Hid (Bd wr b b F l)/\Hid (l=if i=0 then v1 else v1++(vb++tb))/\Hid (Below w.heap.size w wr))
 case atStart=>exact ⟨0,F2,v1,rfl,by omega,HD2.out,rfl,HB2.out⟩
 case round =>
  clear HD2 HB2
  obtain ⟨i,F,l,rfl,hi,hD,hl,hB⟩:=hrel
  have hi01:i=0\/i=1:=by omega
  rcases hi01 with rfl | rfl
  ·have e0:l=v1:=hl.out
   have hbz0:b<=wr.heap.size:=by have:=hB.out.size;have:=HWb.out.2;omega
   have h1000:l.length<=1000:=by rw [e0];exact h11
   have HE0:=Hdz e0
   clear e0
   obtain ⟨_,_,e0,_,_,hcl⟩:=HSl.out.below hB.out
   cases e0
   obtain ⟨blk,off,rfl,hbl,hcell⟩:=hcl (by omega)
   have x0:wr.cell? ⟨blk,off,none⟩=some (.int .i64 o.idx):=hcell 0 _ rfl
   have x1:wr.cell? ⟨blk,off+1,none⟩=some (.int .i64 o.term):=hcell 1 _ rfl
   have x2:wr.cell? ⟨blk,off+2,none⟩=some (.int .i64 o.kind):=hcell 2 _ rfl
   have x3:wr.cell? ⟨blk,off+3,none⟩=some (strV o.data):=hcell 3 _ rfl
   have b0:Blk (wr.alloc (.cells (entCs o).toArray 62)) wr.heap.size 62 (entCs o).toArray:=Blk.new _ _ _
   have c0:(wr.alloc (.cells (entCs o).toArray 62)).cell? ⟨wr.heap.size,0,none⟩=some (.int .i64 o.idx):=b0.cell 0
   have c1:(wr.alloc (.cells (entCs o).toArray 62)).cell? ⟨wr.heap.size,1,none⟩=some (.int .i64 o.term):=b0.cell 1
   have c2:(wr.alloc (.cells (entCs o).toArray 62)).cell? ⟨wr.heap.size,2,none⟩=some (.int .i64 o.kind):=b0.cell 2
   have c3:(wr.alloc (.cells (entCs o).toArray 62)).cell? ⟨wr.heap.size,3,none⟩=some (strV o.data):=b0.cell 3
   clear hcell hcl b0 hbl
   go_upto_region 6 with fail
   refine wRz ?_
   try simp only [lAz]
   refine tA 0 ?_;try simp only [lAz]
   refine tA 2 ?_;try simp only [lAz]
   refine tA 4 ?_;try simp only [lAz]
   refine tA 8 ?_;try simp only [lAz]
   refine rA 1 (v:=?_) (hy:=?hy) ?_;case hy=>(intro w hE;have q0:=hE.cell c0;go_simp;try with_reducible rfl)
   try simp only [lAz]
   refine rA 3 (v:=?_) (hy:=?hy) ?_;case hy=>(intro w hE;have q0:=hE.cell c1;go_simp;try with_reducible rfl)
   try simp only [lAz]
   refine rA 5 (v:=?_) (hy:=?hy) ?_;case hy=>(intro w hE;have q0:=hE.cell c2;go_simp;try with_reducible rfl)
   try simp only [lAz]
   refine wpAny_ready (rs:=[6,9]) (by kernel_rfl) (by simp) (aCz (λ K hK=>?_) (aCz (λ K hK=>?_) AllReady.nil))
   focus
    go_simp
    apply hK
    clear hK K
    refine wpAny_ready (rs:=[7,9]) (by kernel_rfl) (by simp) (aCz (λ K hK=>?_) (aCz (λ K hK=>?_) AllReady.nil))
   rotate_left
   focus
    go_simp
    apply hK
    clear hK K
    refine wpAny_ready (rs:=[7,10]) (by kernel_rfl) (by simp) (aCz (λ K hK=>?_) (aCz (λ K hK=>?_) AllReady.nil))
   rotate_left
   focus
    go_simp
    apply hK
    clear hK K
    refine wpAny_ready (rs:=[7]) (by kernel_rfl) (by simp) (aCz (λ K hK=>?_) AllReady.nil)
   rotate_left
   focus
    go_simp
    apply hK
    clear hK K
    refine wpAny_ready (rs:=[6,10]) (by kernel_rfl) (by simp) (aCz (λ K hK=>?_) (aCz (λ K hK=>?_) AllReady.nil))
   rotate_left
   focus
    go_simp
    apply hK
    clear hK K
    refine rZz 6 λ K hK=>?_;go_simp;apply hK;clear hK K
    refine wpAny_ready (rs:=[7]) (by kernel_rfl) (by simp) (aCz (λ K hK=>?_) AllReady.nil)
   rotate_left 4
   focus
    go_simp
    apply hK
    clear hK K
    refine wpAny_ready (rs:=[7,10]) (by kernel_rfl) (by simp) (aCz (λ K hK=>?_) (aCz (λ K hK=>?_) AllReady.nil))
   rotate_left
   focus
    go_simp
    apply hK
    clear hK K
    refine wpAny_ready (rs:=[7]) (by kernel_rfl) (by simp) (aCz (λ K hK=>?_) AllReady.nil)
   all_goals
    go_simp
    (go_must (refine (HV.out _ _ ?sl).mono ?_);(case sl=>refine sl_blk (T:=3) [.int .i64 o.idx,.int .i64 o.term,.int .i64 o.kind] ?_;(with_reducible first | exact Blk.new' (by simp) | exact Blk.drew (Blk.new' (by simp)) | exact Blk.alloc (Blk.new' (by simp)) _ | exact Blk.drew (Blk.alloc (Blk.new' (by simp)) _) | exact Blk.alloc (Blk.drew (Blk.new' (by simp))) _ | exact Blk.below' (Blk.new' (by simp)) (by assumption) | exact Blk.below' (Blk.drew (Blk.new' (by simp))) (by assumption) | exact Blk.below' (Blk.alloc (Blk.new' (by simp)) _) (by assumption) | exact Blk.below' (Blk.drew (Blk.alloc (Blk.new' (by simp)) _)) (by assumption)));rintro e wv ⟨rfl,hbv⟩)
    have HBv:Hid (Below wr.heap.size wr wv):=Below.trans (by repeat (first | exact Below.refl _ _ | refine Below.drew ?_ | refine Below.alloc ?_ (by first | omega | (simp;omega) | simp) _)) (hbv.mono (by first | omega | (simp;omega) | simp))
    have hzv:=HBv.out.size
    have hzb:=hbv.size
    try have b3:Blk wv wr.heap.size 62 #[.int .i64 o.idx,.int .i64 o.term,.int .i64 o.kind,strV o.data]:=(by repeat (first | with_reducible refine Blk.drew ?_ | (with_reducible refine Blk.new' ?_;first | rfl | (simp;done)) | with_reducible refine Blk.alloc ?_ _ | with_reducible refine Blk.below' ?_ (by assumption)))
    try have n3:=b3.cell 3
    go_simp
    apply hK
    clear hK K
    try (refine rd 9 (by decide +kernel) rfl (λ K hK=>?_);go_simp;apply hK;clear hK K)
    try (refine rd 10 (by decide +kernel) rfl (λ K hK=>?_);go_simp;apply hK;clear hK K)
    refine rZz 11 λ K hK=>?_;go_simp
    (go_must (refine (HT.out _ _ ?sl).mono ?_);(case sl=>refine sl_blk (T:=9) [strV o.data] ?_;(with_reducible first | exact Blk.new' (by simp) | exact Blk.drew (Blk.new' (by simp)) | (refine Blk.below' ?_ hbv;first | exact Blk.drew (Blk.new' (by simp)) | exact Blk.drew (Blk.alloc (Blk.new' (by simp)) _) | exact Blk.new' (by simp) | exact Blk.alloc (Blk.new' (by simp)) _)));rintro e wt ⟨rfl,hbt⟩)
    have HBt:Hid (Below wr.heap.size wr wt):=Below.trans (HBv.out.trans (by repeat (first | exact Below.refl _ _ | refine Below.drew ?_ | refine Below.alloc ?_ (by first | omega | (simp;omega) | simp) _))) (hbt.mono (by first | omega | (simp;omega) | simp))
    clear hbt hbv
    go_simp
    apply hK
    clear hK K
    refine rZz 12 λ K hK=>?_;go_simp;apply hK;clear hK K
    refine rZz 13 λ K hK=>?_;go_simp
    (go_must (refine (bw_string (hD.out.below HBt.out) (vb++tb) (by have:=h1000;simp only [List.length_append];omega) (by have:=hbz0;have:=HBt.out.size;omega)).mono ?_);rintro e wx ⟨rfl,⟨F5,hB5⟩,K5⟩)
    go_simp
    apply hK
    clear hK K
    refine wDz ?_
    have HD5:=Hdz hB5
    have HB5:Hid (Below w.heap.size w wx):=(hB.out.trans (HBt.out.mono hB.out.size)).trans (by have h:=(hD.out.below HBt.out).below_of K5 (by have:=hbz0;have:=HBt.out.size;omega);rw [HWb.out.2];exact h)
    clear hB5 K5
    go_wp2_with (fail)
    go_roundg 0
    case measure=>omega
    case rel=>exact ⟨1,F5,_,rfl,by omega,HD5.out,(by show _=_;rw [if_neg (by decide),HE0.out]),HB5.out⟩
  ·have HTx:=Hdz (bw_text hD.out)
   have e1:=hl.out
   rw [if_neg (by decide)] at e1
   subst e1
   go_wp2_with (fail)
   go_must (refine HTx.out.mono ?_)
   rintro e w7 ⟨rfl,hb7⟩
   have HB7:Hid (Below w.heap.size w w7):=hB.out.trans (by rw [HWb.out.2];exact hb7)
   clear hb7
   go_wp2_with (fail)
   go_ret
   exact ⟨by rw [HL.out]<;>rfl,HB7.out⟩
theorem RdTo.go {r:Nat} {w w':World} {v:Value} {R:Rd} {e:Ending} (h:RdTo r w v R e w'):e=.returned v/\RdAt w' r R/\Keeps (· = r) w w':=h
def MemP (l:List Int) (w:World) (e:Ending) (w':World):Prop:=∃ u,e=.returned (.tuple #[u,.int .i64 0])/\w'.ownsRow w.heap.size 3 1 u l.length (intsV l)/\Below w.heap.size w w'
theorem intsV_app1 (l:List Int) (x:Int):intsV l++[.int .i64 x]=intsV (l++[x]):=by simp [intsV]
theorem getMembers_ok (l:List Int) (w:World) (h:ValidM l) :
  Calls Tryz.prog 56 #[strV (memB l)] w (MemP l w):=by
 obtain ⟨j0,hj,hz0,hz1,hz2⟩:=info_parts infoInt
 have hI:∀ x∈l,I64 x:=λ x hx=>by
  obtain ⟨i,hi,rfl⟩:=List.getElem_of_mem hx
  have:=h.ids i hi
  exact ⟨by omega,by omega⟩
 have hlen:(memB l).length<=100000:=by
  have h1:=varsB_len [(l.length:Int)] (by intro x hx;simp at hx;subst hx;have:=h.len;exact ⟨by omega,by omega⟩)
  have h2:=varsB_len l hI
  have:=h.len
  simp only [memB,List.length_append,List.length_cons,List.length_nil] at h1 ⊢
  omega
 have hcnt:Rd.count 9 ⟨memB l,0⟩=((l.length:Int),⟨varsB l,0⟩):=by
  have e:memB l=varB (l.length:Int)++varsB l:=by simp [memB,varsB]
  rw [e]
  have:=h.len
  exact Rd.count_var _ 9 ⟨by omega,by omega⟩ (by omega) (by omega) _
 have hvar:∀ i (hi:i<l.length),Rd.var ⟨varsB (l.drop i),0⟩=(l[i],⟨varsB (l.drop (i+1)),0⟩):=λ i hi=>by
  rw [List.drop_eq_getElem_cons hi]
  exact Rd.var_var _ (hI _ (List.getElem_mem hi)) _
 have HLen:=Hdz h.len
 have HIds:=Hdz h.ids
 have HRise:=Hdz h.rise
 have HVar:=Hdz hvar
 have HN:=Hdz (newReader_any (memB l) w (by omega))
 have HCnt:=Hdz hcnt
 have hl9:l.length<=9:=h.len.2
 have hl1:1<=l.length:=h.len.1
 clear h hI hlen hvar hcnt
 go_enter Tryz.func56,Tryz.ntmps56
 go_wp2_with (fail)
 go_must (refine HN.out.mono ?_)
 rintro e w1 ⟨r,rfl,hr,hrz,hb1⟩
 have HB1:=Hdz hb1
 have HC:=Hdz (count_any r _ 9 w1 hr)
 have HRz:=Hdz hrz
 clear hb1 hr hrz
 go_wp2_with (fail)
 go_must (refine HC.out.mono ?_)
 rintro e w2 hto
 obtain ⟨rfl,hr,hk2⟩:=hto.go
 rw [HCnt.out] at hr ⊢
 have HB2:Hid (Below w.heap.size w w2):=HB1.out.trans (hk2.below HB1.out.size λ i hi e=>by have:=HRz.out;omega)
 have HR2:=Hdz hr
 clear hto hr hk2
 go_wp2_with (fail)
 go_loopg [5,14] l.length (λ gk s5 s14 wr=>∃ (i:Nat) (A:Option Addr) (c:Nat),s5=.slice A i c/\s14=.int .i64 (i:Int)/\i+gk=l.length/\Hid (wr.ownsRow w.heap.size 3 1 (.slice A i c) i (intsV (l.take i)))/\Hid (RdAt wr r ⟨varsB (l.drop i),0⟩)/\Hid (Below w.heap.size w wr))
 case atStart=>exact ⟨0,none,0,rfl,rfl,by omega,World.ownsRow_nil _ _ _ _,HR2.out,HB2.out⟩
 case round =>
  clear HR2 HB2
  obtain ⟨i,A,c,rfl,rfl,hi,hO,hRd,hB⟩:=hrel
  by_cases hlt:i<l.length
  ·have h1':(i:Int)<(l.length:Int):=by omega
   have hw1:IntKind.i64.wrap ((i:Int)+1)=(i:Int)+1:=IntWalk.i64_in _ (by omega)
   have HV:=Hdz (var_any r _ wr hRd.out)
   have HX:=Hdz (HVar.out i hlt)
   have HT:Hid (intsV (l.take i)++[.int .i64 (l[i])]=intsV (l.take (i+1))):=by
    show _=_
    rw [List.take_succ_eq_append_getElem hlt,intsV_app1]
   obtain ⟨m,hm⟩:=nmz (l[i])
   rw [hm] at HX HT
   clear hm
   go_wp2_with (fail)
   go_must (refine HV.out.mono ?_)
   rintro e w3 hto
   obtain ⟨rfl,hr3,hk3⟩:=hto.go
   rw [HX.out] at hr3 ⊢
   have hne:=own_ne hO.out hRd.out.1 (by decide)
   have hown:=own_keeps hO.out hk3 λ k e e2=>hne k e e2
   have hB3:Below w.heap.size w w3:=hB.out.trans (hk3.below hB.out.size λ i hi e=>by have:=HRz.out;omega)
   have hbA:Below w3.heap.size w3 (w3.alloc (.cells #[.int .i64 m] 3)):=(Below.refl _ _).alloc (Nat.le_refl _) _
   have hown2:=own_below hown hbA
   have hB4:=hB3.trans (hbA.mono hB3.size)
   have hr4:=hr3.keeps (Keeps.of_below (S:=λ _=>False) hbA) id
   have hsz:=hB4.size
   have HR4:=Hdz hr4
   have HB4:=Hdz hB4
   have HOw:=Hdz hown2
   clear hto hr3 hk3 hown hB3 hbA hB4 hr4
   go_wp2_with (at_builtin;go_must (refine wpList_append_at rfl _ _ 35 rfl w.heap.size 3 j0 _ 1 8 Tryz.underlying35 hj hz0 hz1 hz2 rfl (by decide) _ i _ rfl hown2 ⟨w3.heap.size,0,none⟩ 1 1 [.int .i64 m] rfl rfl (λ j v hj=>by rw [addr_add];match j,hj with | 0,hj=>(cases hj;exact (Blk.new w3 3 #[.int .i64 m]).cell 0) | j+1,hj=>simp at hj) (by simp [Value.oneCell']) (by unfold maxLen;omega) (by omega) hsz ?_))
   intro v5 w5 own5 hg5 hat5
   obtain ⟨A5,c5,rfl,-⟩:=Sl.of_own own5
   have hK5:Keeps (λ k=>(Value.slice A i c).ownBlock=some k) (w3.alloc (.cells #[.int .i64 m] 3)) w5:=(Keeps.refl _ _).grown hg5 λ k e _=>e
   have HR5:=Hdz (HR4.out.keeps hK5 λ e=>hne r e rfl)
   have HB5:=Hdz (HB4.out.trans (hK5.below HB4.out.size λ k hk e=>by have:=(HOw.out.lt k e).1;omega))
   rw [HT.out] at own5
   have HO5:=Hdz own5
   clear own5 hg5 hat5 hK5 hown2 hne
   go_wp2_with (fail)
   go_roundg (gk-1)
   case measure=>omega
   case rel=>exact ⟨i+1,A5,c5,rfl,by simp,by omega,HO5.out,HR5.out,HB5.out⟩
  ·obtain ⟨wo,rfl⟩:∃ wo,wo=wr:=⟨_,rfl⟩
   obtain ⟨go,rfl⟩:∃ g,g=gk:=⟨_,rfl⟩
   have hii:i=l.length:=by omega
   subst hii
   have h1':¬ (l.length:Int)<(l.length:Int):=by omega
   have HE:=Hdz (end_any r _ wo hRd.out)
   have hz:Rd.end ⟨varsB (l.drop l.length),0⟩=0:=by rw [List.drop_length];rfl
   rw [hz] at HE
   have HRow:Hid (wo.ownsRow w.heap.size 3 1 (.slice A l.length c) l.length (intsV l)):=by have:=hO.out;rw [List.take_length] at this;exact this
   have hne0:((l.length:Int)==0)=false:=beq_eq_false_iff_ne.2 (by omega)
   obtain ⟨_,_,e0,_,_,hcl⟩:=Sl.of_own HRow.out
   cases e0
   obtain ⟨blk,off,rfl,hbl,hcell⟩:=hcl (by omega)
   have HCl:=Hdz hcell
   clear hz hcl hcell hO
   go_wp2_with (fail)
   go_must (refine HE.out.mono ?_)
   rintro e w6 ⟨rfl,rfl⟩
   go_wp2_with (fail)
   go_loopg [7,32] l.length (λ gk s7 s32 ws=>∃ (k:Nat) (la:Int),s7=.int .i64 la/\s32=.int .i64 (k:Int)/\k+gk=l.length/\Hid (∀ h:k<l.length,la<l[k])/\ws=w6)
   case atStart=>exact ⟨0,0,rfl,rfl,by omega,(λ h=>by have:=HIds.out 0 h;omega),rfl⟩
   case round =>
    obtain ⟨k,la,rfl,rfl,hk,hla,rfl⟩:=hrel
    by_cases hlt:k<l.length
    ·have h2':(k:Int)<(l.length:Int):=by omega
     have hk0:(0:Int)<=(k:Int):=by omega
     have hw1:IntKind.i64.wrap ((k:Int)+1)=(k:Int)+1:=IntWalk.i64_in _ (by omega)
     have x0:=HCl.out k (.int .i64 l[k]) (by unfold intsV;rw [List.getElem?_map,List.getElem?_eq_getElem hlt];rfl)
     have hid:=HIds.out k hlt
     have hl0:=hla.out hlt
     have HNx:Hid (∀ h:k+1<l.length,l[k]<l[k+1]):=λ h=>HRise.out k h
     obtain ⟨m,hm⟩:=nmz (l[k])
     rw [hm] at x0 hid hl0 HNx
     have d1:¬ m<=la:=by omega
     have d2:¬ (64:Int)<m:=by omega
     clear hm hid hl0
     go_wp2_with (fail)
     go_roundg (gk-1)
     case measure=>omega
     case rel=>exact ⟨k+1,m,rfl,by simp,by omega,HNx.out,rfl⟩
    ·have h2':¬ (k:Int)<(l.length:Int):=by omega
     go_wp2_with (fail)
     refine bodyPost_ret (v:=.tuple #[.slice (some ⟨blk,off,none⟩) l.length c,.int .i64 0]) (by simp [results,Tryz.results56,go_sem]) rfl ?_
     exact ⟨_,rfl,HRow.out,hB.out⟩
theorem infoEnt:(Tryz.prog.info? 62).map (λ i=>(i.zero,i.size,i.bytes))=some (some (.agg #[.int .i64 0,.int .i64 0,.int .i64 0,strV []]),4,40):=by kernel_rfl
theorem row_ent (w:World) (o:LogE) (T:TypeId) (B:Nat) (hB:B=w.heap.size):∀ j v,(entCs o)[j]? = some v->(w.alloc (.cells #[.int .i64 o.idx,.int .i64 o.term,.int .i64 o.kind,strV o.data] T)).cell? ((⟨B,0,none⟩:Addr).add j)=some v:=by
 intro j v h
 subst hB
 rw [addr_add]
 have hb:=Blk.new w T #[.int .i64 o.idx,.int .i64 o.term,.int .i64 o.kind,strV o.data]
 match j with
 | 0=>cases h;exact hb.cell 0
 | 1=>cases h;exact hb.cell 1
 | 2=>cases h;exact hb.cell 2
 | 3=>cases h;exact hb.cell 3
 | j+4=>simp [entCs] at h
def GetP1 (r:Nat) (o:LogE) (w:World) (e:Ending) (w':World):Prop:=∃ u,e=.returned u/\w'.ownsRow w.heap.size 62 4 u 1 (entCs o)/\RdAt w' r ⟨[],0⟩/\Keeps (· = r) w w'
theorem entGet_ok (r:Nat) (o:LogE) (w:World) (hr:RdAt w r ⟨entB o,0⟩) (h:EntOk o) :
  Calls Tryz.prog 154 #[.pointer (some ⟨r,0,none⟩)] w (GetP1 r o w):=by
 obtain ⟨j0,hj,hz0,hz1,hz2⟩:=info_parts infoEnt
 have h5:=h.data
 obtain ⟨b3,hb3⟩:=nmz (textB o.data)
 obtain ⟨b2,hb2⟩:=nmz (varB o.kind++b3)
 obtain ⟨b1,hb1⟩:=nmz (varB o.term++b2)
 obtain ⟨b0,hb0⟩:=nmz (varB o.idx++b1)
 have e0:entB o=varB 1++b0:=by
  rw [<- hb0,<- hb1,<- hb2,<- hb3]
  simp [entB,entL,varsB,textsB]
 have rc:Rd.count 400 ⟨entB o,0⟩=(1,⟨b0,0⟩):=by rw [e0];exact Rd.count_var _ 400 ⟨by omega,by omega⟩ (by omega) (by omega) _
 have r0:Rd.var ⟨b0,0⟩=(o.idx,⟨b1,0⟩):=by rw [<- hb0];exact Rd.var_var _ h.idx _
 have r1:Rd.var ⟨b1,0⟩=(o.term,⟨b2,0⟩):=by rw [<- hb1];exact Rd.var_var _ h.term _
 have r2:Rd.var ⟨b2,0⟩=(o.kind,⟨b3,0⟩):=by rw [<- hb2];exact Rd.var_var _ h.kind _
 have r3:Rd.text 2200 ⟨b3,0⟩=(o.data,⟨[],0⟩):=by
  rw [<- hb3]
  have:=Rd.text_text o.data 2200 (by omega) (by omega) []
  rwa [List.append_nil] at this
 have HR:=Hdz (Anz r0 (Anz r1 (Anz r2 r3)))
 have HC:=Hdz (count_any r _ 400 w hr)
 rw [rc] at HC
 have HVar:Hid (∀ W R,RdAt W r R->Calls Tryz.prog 97 #[.pointer (some ⟨r,0,none⟩)] W (RdTo r W (.int .i64 R.var.1) R.var.2)):=λ W R hr=>var_any r R W hr
 have HErr:Hid (∀ W b,RdAt W r ⟨b,0⟩->Calls Tryz.prog 98 #[.pointer (some ⟨r,0,none⟩)] W λ e w'=>e=.returned (.int .i64 0)/\W=w'):=λ W b hr=>(err_any r ⟨b,0⟩ W hr).mono λ e w' h=>⟨h.1,h.2.symm⟩
 have H5:=Hdz h5
 have HLt:Hid (r<w.heap.size):=hr.1.lt
 clear r0 r1 r2 r3 rc e0 hb0 hb1 hb2 hb3 h h5 hr
 go_enter Tryz.func154,Tryz.ntmps154
 go_wp2_with (fail)
 go_must (refine HC.out.mono ?_)
 rintro e w1 hto
 obtain ⟨rfl,hr1,hk1⟩:=hto.go
 have HR1:=Hdz hr1
 have HK1:=Hdz hk1
 clear hto hr1 hk1
 go_wp2_with (fail)
 go_loopg [3,6] 1 (λ gk s3 s6 wr=>∃ (i:Nat) (A:Option Addr) (c:Nat),s3=.slice A i c/\s6=.int .i64 (i:Int)/\i+gk=1/\Hid (wr.ownsRow w.heap.size 62 4 (.slice A i c) i (if i=0 then [] else entCs o))/\Hid (RdAt wr r ⟨if i=0 then b0 else [],0⟩)/\Hid (Keeps (· = r) w wr))
 case atStart=>exact ⟨0,none,0,rfl,rfl,by omega,World.ownsRow_nil _ _ _ _,HR1.out,HK1.out⟩
 case round =>
  clear HR1 HK1
  obtain ⟨i,A,c,rfl,rfl,hi,hO,hRd,hK⟩:=hrel
  have hi01:i=0\/i=1:=by omega
  rcases hi01 with rfl | rfl
  ·have HE:=Hdz (HErr.out wr b0 hRd.out)
   have HV:=Hdz (HVar.out wr _ hRd.out)
   go_wp2_with (fail)
   go_must (refine HE.out.mono ?_)
   rintro e w2 ⟨rfl,rfl⟩
   go_wp2_with (fail)
   go_must (refine HV.out.mono ?_)
   rintro e w2 hto
   obtain ⟨rfl,hr2,hk2⟩:=hto.go
   simp only [if_true] at hr2 ⊢
   rw [HR.out.1] at hr2 ⊢
   have HV2:=Hdz (HVar.out w2 _ hr2)
   have HK2:=Hdz hk2
   clear hto hr2 hk2
   go_wp2_with (fail)
   go_must (refine HV2.out.mono ?_)
   rintro e w3 hto
   obtain ⟨rfl,hr3,hk3⟩:=hto.go
   rw [HR.out.2.1] at hr3 ⊢
   have HV3:=Hdz (HVar.out w3 _ hr3)
   have HK3:=Hdz (HK2.out.trans hk3 λ i _ e=>e)
   clear hto hr3 hk3
   go_wp2_with (fail)
   go_must (refine HV3.out.mono ?_)
   rintro e w4 hto
   obtain ⟨rfl,hr4,hk4⟩:=hto.go
   rw [HR.out.2.2.1] at hr4 ⊢
   have HV4:=Hdz (text_any r _ 2200 w4 hr4)
   have HK4:=Hdz (HK3.out.trans hk4 λ i _ e=>e)
   clear hto hr4 hk4
   go_wp2_with (fail)
   go_must (refine HV4.out.mono ?_)
   rintro e w5 hto
   obtain ⟨rfl,hr5,hk5⟩:=hto.go
   rw [HR.out.2.2.2] at hr5 ⊢
   have HCl:=Hdz (clone_any ⟨o.data.toArray⟩ w5 (by show o.data.length<=_;have:=H5.out;omega))
   have HK5:=Hdz (HK4.out.trans hk5 λ i _ e=>e)
   have HR5:=Hdz hr5
   clear hto hr5 hk5
   go_wp2_with (fail)
   go_must (refine HCl.out.mono ?_)
   rintro e w6 ⟨rfl,hb6⟩
   have hbA:Below w6.heap.size w6 (w6.alloc (.cells #[.int .i64 o.idx,.int .i64 o.term,.int .i64 o.kind,strV o.data] 62)):=(Below.refl _ _).alloc (Nat.le_refl _) _
   have hb7:=hb6.trans (hbA.mono hb6.size)
   have HK7:Hid (Keeps (· = r) wr (w6.alloc (.cells #[.int .i64 o.idx,.int .i64 o.term,.int .i64 o.kind,strV o.data] 62))):=HK5.out.trans (Keeps.of_below (S:=λ _=>False) hb7) λ i _ e=>e.elim
   have HR7:=Hdz (HR5.out.keeps (Keeps.of_below (S:=λ _=>False) hb7) id)
   have hsz:w.heap.size<=(w6.alloc (.cells #[.int .i64 o.idx,.int .i64 o.term,.int .i64 o.kind,strV o.data] 62)).heap.size:=Nat.le_trans hK.out.size HK7.out.size
   have hne:=own_ne hO.out hRd.out.1 (by decide)
   have hown:=own_keeps hO.out HK7.out λ k e e2=>hne k e e2
   simp only [if_true] at hown
   clear hb6 hbA hb7 hne
   go_wp2_with (at_builtin;go_must (refine wpList_append_at rfl _ _ 24 rfl w.heap.size 62 j0 _ 4 40 Tryz.underlying24 hj hz0 hz1 hz2 rfl (by decide) _ 0 _ rfl hown ⟨w6.heap.size,0,none⟩ 1 1 (entCs o) rfl rfl (row_ent w6 o _ _ rfl) (by simp [entCs,Value.oneCell']) (by unfold maxLen;omega) (by omega) hsz ?_))
   intro v8 w8 own8 hg8 hat8
   obtain ⟨A8,c8,rfl,-⟩:=Sl.of_own own8
   have hK8:Keeps (λ k=>(Value.slice A 0 c).ownBlock=some k) (w6.alloc (.cells #[.int .i64 o.idx,.int .i64 o.term,.int .i64 o.kind,strV o.data] 62)) w8:=(Keeps.refl _ _).grown hg8 λ k e _=>e
   have hne8:∀ k,(Value.slice A 0 c).ownBlock=some k->w.heap.size<=k:=λ k e=>(hown.lt k e).1
   have HR8:=Hdz (HR7.out.keeps hK8 λ e=>by have:=hne8 r e;have:=HLt.out;omega)
   have HK8:Hid (Keeps (· = r) w w8):=(hK.out.trans HK7.out λ i _ e=>e).trans hK8 λ i hi e=>by have:=hne8 i e;omega
   have HO8:Hid (w8.ownsRow w.heap.size 62 4 (.slice A8 1 c8) 1 (entCs o)):=by show World.ownsRow _ _ _ _ _ _ _;simpa using own8
   clear own8 hg8 hat8 hK8 hown
   go_wp2_with (fail)
   go_roundg 0
   case measure=>omega
   case rel=>exact ⟨1,A8,c8,by simp,by simp,by omega,(by show World.ownsRow _ _ _ _ _ _ _;rw [if_neg (by decide)];exact HO8.out),(by show RdAt _ _ _;rw [if_neg (by decide)];exact HR8.out),HK8.out⟩
  ·have hRd1:RdAt wr r ⟨[],0⟩:=by have:=hRd.out;rw [if_neg (by decide)] at this;exact this
   have hO1:wr.ownsRow w.heap.size 62 4 (.slice A 1 c) 1 (entCs o):=by have:=hO.out;rw [if_neg (by decide)] at this;exact this
   have HE:=Hdz (HErr.out wr [] hRd1)
   have HO1:=Hdz hO1
   have HRd1:=Hdz hRd1
   clear hRd1 hO1
   go_wp2_with (fail)
   go_must (refine HE.out.mono ?_)
   rintro e w2 ⟨rfl,rfl⟩
   go_wp2_with (fail)
   go_ret
   exact ⟨_,rfl,HO1.out,HRd1.out,hK.out⟩
def entV (o:LogE):Value:=.agg #[.int .i64 o.idx,.int .i64 o.term,.int .i64 o.kind,strV o.data]
theorem blk4_end {W w1:World} {b:Nat} {T:TypeId} {a0 a1 a2 a3:Value} (r0 r1 r2 r3:Value) (hb:Below W.heap.size W w1) (hB:W.heap.size<=b) (bz:Blk w1 b T #[a0,a1,a2,a3]) :
  Blk ((((w1.setCell ⟨b,0,none⟩ r0).setCell ⟨b,1,none⟩ r1).setCell ⟨b,2,none⟩ r2).setCell ⟨b,3,none⟩ r3) b T #[r0,r1,r2,r3]/\Below W.heap.size W ((((w1.setCell ⟨b,0,none⟩ r0).setCell ⟨b,1,none⟩ r1).setCell ⟨b,2,none⟩ r2).setCell ⟨b,3,none⟩ r3):=by
 have KF:=((((Keeps.refl (λ k=>k=b) w1).setCell (p:=⟨b,0,none⟩) (λ _=>rfl) r0).setCell (p:=⟨b,1,none⟩) (λ _=>rfl) r1).setCell (p:=⟨b,2,none⟩) (λ _=>rfl) r2).setCell (p:=⟨b,3,none⟩) (λ _=>rfl) r3
 exact ⟨(((bz.set 0 r0).set 1 r1).set 2 r2).set 3 r3,hb.trans (KF.below hb.size λ i hi e=>by omega)⟩
theorem entOne_ok (o:LogE) (w:World) (h:EntOk o) (hL:(entB o).length<=100000) :
  Calls Tryz.prog 101 #[strV (entB o)] w λ e w'=>e=.returned (.tuple #[entV o,.int .i64 0])/\Below w.heap.size w w':=by
 have HOk:=Hdz h
 go_enter Tryz.func101,Tryz.ntmps101
 go_wp2_with (fail)
 go_must (refine (newReader_any (entB o) _ (by omega)).mono ?_)
 rintro e w1 ⟨r,rfl,hr,hrz,hb1⟩
 have HB1:Hid (Below w.heap.size w w1):=((Below.refl _ w).alloc (Nat.le_refl _) _).trans (hb1.mono (by simp))
 have HBz:=Hdz (Blk.below' (Blk.new w 62 #[.int .i64 0,.int .i64 0,.int .i64 0,strV []]) hb1)
 have HRz:Hid (w.heap.size<r):=by have:=hrz;simp at this;exact this
 have HG:=Hdz (entGet_ok r o w1 hr HOk.out)
 clear hb1 hrz hr
 go_wp2_with (fail)
 go_must (refine HG.out.mono ?_)
 rintro e w2 ⟨u,rfl,hO,hR,hK⟩
 obtain ⟨A,c,rfl,hS⟩:=Sl.of_own hO
 obtain ⟨b,of,rfl,hlt,hc⟩:=hS.2.2 (by omega)
 have g0:w2.cell? ⟨b,of,none⟩=some (.int .i64 o.idx):=hc 0 _ rfl
 have g1:w2.cell? ⟨b,of+1,none⟩=some (.int .i64 o.term):=hc 1 _ rfl
 have g2:w2.cell? ⟨b,of+2,none⟩=some (.int .i64 o.kind):=hc 2 _ rfl
 have g3:w2.cell? ⟨b,of+3,none⟩=some (strV o.data):=hc 3 _ rfl
 have HE:=Hdz (end_any r _ w2 hR)
 have HB2:Hid (Below w.heap.size w w2):=HB1.out.trans (hK.below HB1.out.size λ i hi e=>by have:=HRz.out;omega)
 have bz:Blk w2 w.heap.size 62 #[.int .i64 0,.int .i64 0,.int .i64 0,strV []]:=HBz.out.keeps hK (λ e=>by have:=HRz.out;omega)
 have HBz2:=Hdz bz
 have z0:=bz.cell 0
 have z1:=bz.cell 1
 have z2:=bz.cell 2
 have z3:=bz.cell 3
 have f0:=bz.frozen 0
 have f1:=bz.frozen 1
 have f2:=bz.frozen 2
 have f3:=bz.frozen 3
 clear hO hR hK hS hc hlt bz HBz
 go_wp2_with (fail)
 go_must (refine HE.out.mono ?_)
 rintro e w3 ⟨rfl,rfl⟩
 go_wp2_with (fail)
 obtain ⟨q1,q2⟩:=blk4_end (.int .i64 o.idx) (.int .i64 o.term) (.int .i64 o.kind) (strV o.data) HB2.out (Nat.le_refl _) HBz2.out
 refine bodyPost_ret (res_row [.int .i64 o.idx,.int .i64 o.term,.int .i64 o.kind,strV o.data] rfl rfl rfl (by kernel_rfl) q1) rfl ?_
 exact ⟨rfl,q2⟩
theorem isIndex_ok (n:Int) (w:World) (h1:1<=n) (h2:n<=99999999):Calls Tryz.prog 46 #[.int .i64 n] w λ e w'=>e=.returned (.bool true)/\w=w':=by
 have d1:decide (n >= 1)=true:=decide_eq_true h1
 have d2:decide (n<=99999999)=true:=decide_eq_true h2
 clear h1 h2
 go_enter Tryz.func46,Tryz.ntmps46
 go_wp2_with (fail)
 go_ret
 exact ⟨rfl,rfl⟩
theorem right_ok (w:World):Calls Tryz.prog 53 #[.bool true] w λ e w'=>e=.returned (.int .i64 0)/\w=w':=by
 go_enter Tryz.func53,Tryz.ntmps53
 go_wp2_with (fail)
 go_ret
 exact ⟨rfl,rfl⟩
theorem devNew_any (most:Nat) (w:World) (h1:1<=most) (h2:most<=3000) :
  Calls Tryz.prog 120 #[.int .i64 most] w λ e w'=>e=.returned (.tuple #[ptrV w.heap.size,.int .i64 0]) ∧
   w.alloc (.cells #[.int .i64 most,.bool true,.bool false,.int .i64 0,.slice none 0 0,.slice none 0 0,.chan none] 262)=w':=by
 have g1:¬ (most:Int)<1:=by omega
 have g2:¬ (3000:Int)<(most:Int):=by omega
 go_enter Tryz.func120,Tryz.ntmps120
 go_wp2
 go_ret2
 exact ⟨rfl,rfl⟩
theorem DevAt.new (most:Nat) (w:World) (h2:most<=3000) :
  DevAt (w.alloc (.cells #[.int .i64 most,.bool true,.bool false,.int .i64 0,.slice none 0 0,.slice none 0 0,.chan none] 262)) w.heap.size most 0 (.slice none 0 0) (.slice none 0 0):=
 ⟨Blk.new _ _ _,⟨_,World.ownsRow_nil _ _ _ _⟩,⟨_,World.ownsRow_nil _ _ _ _⟩,λ k h=>(by cases h),⟨by omega,by omega⟩⟩
theorem refNew_any (most:Nat) (w:World) (h1:1<=most) (h2:most<=3000) :
  Calls Tryz.prog 121 #[.int .i64 most] w λ e w'=>e=.returned (.tuple #[ptrV w.heap.size,.int .i64 0])/\w.alloc (.cells (refDev most) 265)=w':=by
 have g1:¬ (most:Int)<1:=by omega
 have g2:¬ (3000:Int)<(most:Int):=by omega
 go_enter Tryz.func121,Tryz.ntmps121
 go_wp2
 go_ret2
 exact ⟨rfl,rfl⟩
theorem freePut_any (b:Nat) (w:World) :
  Calls Tryz.prog 210 #[ptrV b,.slice none 0 0] w λ e w'=>e=.returned (.tuple #[])/\w'=w:=by
 go_enter Tryz.func210,Tryz.ntmps210
 go_wp2
 go_loopg [10] 0 (λ gk s10 wr=>s10=.int .i64 0/\wr=w)
 case atStart=>exact ⟨rfl,rfl⟩
 case round =>
  obtain ⟨rfl,rfl⟩:=hrel
  go_wp2_with (fail)
  refine bodyPost_end (results_none rfl _ _ _) rfl ?_
  exact ⟨rfl,rfl⟩
theorem freeNew_any (w:World) :
  Calls Tryz.prog 124 #[.slice none 0 0] w λ e w'=>e=.returned (ptrV w.heap.size)/\w.alloc (.cells #[.slice none 0 0,.slice none 0 0,.map none] 274)=w':=by
 have hB:∀ W:World,Calls Tryz.prog 172 #[ptrV w.heap.size,.slice none 0 0] W λ e w'=>e=.returned (.tuple #[])/\w'=W:=by
  intro W
  go_enter Tryz.func172,Tryz.ntmps172
  go_wp2_with (fail)
  go_must (refine (freePut_any _ _).mono ?_)
  rintro e w1 ⟨rfl,rfl⟩
  go_wp2
  refine bodyPost_end (results_none rfl _ _ _) rfl ?_
  exact ⟨rfl,rfl⟩
 go_enter Tryz.func124,Tryz.ntmps124
 go_wp2_with (fail)
 go_must (refine (hB _).mono ?_)
 rintro e w1 ⟨rfl,rfl⟩
 go_wp2
 go_ret
 exact ⟨rfl,rfl⟩
theorem cloneNil_any (w:World):Calls Tryz.prog 215 #[.slice none 0 0] w λ e w'=>e=.returned (.slice none 0 0)/\w=w':=by
 have q22:∀ (w:World) (a:Option Addr) (n c n' c':Nat),(binOp .eql 35 (.slice a n c) (.slice none n' c')).run Tryz.prog w=.ok (.bool a.isNone) w:=λ w a n c n' c'=>Lib.run_eql_slice_nil w _ 3 a n c n' c' Tryz.underlying35
 go_enter Tryz.func215,Tryz.ntmps215
 go_wp2
 go_ret
 exact ⟨rfl,rfl⟩
theorem heapInit_nil (b:Nat) (w:World) (h:w.cell? ⟨b,0,none⟩=some (.slice none 0 0)) :
  Calls Tryz.prog 216 #[.iface 331 (.pointer (some ⟨b,0,none⟩))] w λ e w'=>e=.returned (.tuple #[])/\w=w':=by
 have hm:=m_len b _ w h
 go_enter Tryz.func216,Tryz.ntmps216
 go_wp2_with (fail)
 go_must (refine (lenN_any _ _ _ _).mono ?_)
 rintro e w2 ⟨rfl,rfl⟩
 go_wp2_with (fail)
 go_loopg [3] 0 (λ gk s3 wr=>s3=.int .i64 (-1)/\wr=w2)
 case atStart=>exact ⟨rfl,rfl⟩
 case round =>
  obtain ⟨rfl,rfl⟩:=hrel
  go_wp2_with (fail)
  refine bodyPost_end (results_none rfl _ _ _) rfl ?_
  exact ⟨rfl,rfl⟩
theorem pileNew_any (w:World) :
  Calls Tryz.prog 177 #[.slice none 0 0] w λ e w'=>e=.returned (ptrV w.heap.size)/\w.alloc (.cells #[.slice none 0 0] 270)=w':=by
 have hb:Blk (w.alloc (.cells #[.slice none 0 0] 270)) w.heap.size 270 #[.slice none 0 0]:=Blk.new _ _ _
 have hI:=Hdz (heapInit_nil w.heap.size _ (hb.cell 0))
 clear hb
 go_enter Tryz.func177,Tryz.ntmps177
 go_wp2_with (fail)
 go_must (refine (cloneNil_any _).mono ?_)
 rintro e w1 ⟨rfl,rfl⟩
 go_wp2_with (fail)
 go_must (refine hI.out.mono ?_)
 rintro e w2 ⟨rfl,rfl⟩
 go_wp2
 go_ret
 exact ⟨rfl,rfl⟩
def pg0 (d f:Nat):Array Value:=#[ptrV d,ptrV f,.int .i64 2,.int .i64 2,.int .i64 1,.map none,.map none,.map none,.pointer none]
def ClearP (p d f:Nat) (w:World) (e:Ending) (w':World):Prop:=
 e=.returned (.tuple #[])/\∃ mb db wb sb,Blk w' p 212 #[ptrV d,ptrV f,.int .i64 2,.int .i64 2,.int .i64 1,.map (some mb),.map (some db),.map (some wb),ptrV sb]/\MapI w' mb [] 0/\MapI w' db [] 0/\MapI w' wb [] 0/\Pl w' sb (.slice none 0 0) [] ∧
  w.heap.size<=mb/\mb<db/\db<wb/\wb<sb/\Keeps (λ k=>k=p) w w'
theorem MapI.newM (w:World):MapI (w.alloc (.map #[] 0)) w.heap.size [] 0:=heap_alloc_new w _
theorem MapI.allocM {w:World} {b c:Nat} {l:List Ent} (h:MapI w b l c) (o:Obj):MapI (w.alloc o) b l c:=h.keeps (S:=λ _=>False) (Keeps.of_below ((Below.refl _ w).alloc (Nat.le_refl _) o)) λ h=>h
theorem pl_new (w:World):Pl (w.alloc (.cells #[.slice none 0 0] 270)) w.heap.size (.slice none 0 0) []:=by
 have hb:Blk (w.alloc (.cells #[.slice none 0 0] 270)) w.heap.size 270 #[.slice none 0 0]:=Blk.new _ _ _
 exact ⟨hb.cell 0,hb.frozen 0,hb.lt,World.ownsRow_nil _ _ _ _,by simp [Value.ownBlock]⟩
theorem clear_end {p d f:Nat} {w w1 w2 w3 w4:World} (h:Blk w p 212 (pg0 d f)) (e1:w.alloc (.map #[] 0)=w1) (e2:w1.alloc (.map #[] 0)=w2) (e3:w2.alloc (.map #[] 0)=w3) (e4:w3.alloc (.cells #[.slice none 0 0] 270)=w4) :
  ClearP p d f w (.returned (.tuple #[])) ((((w4.setCell ⟨p,5,none⟩ (.map (some w.heap.size))).setCell ⟨p,6,none⟩ (.map (some w1.heap.size))).setCell ⟨p,7,none⟩ (.map (some w2.heap.size))).setCell ⟨p,8,none⟩ (ptrV w3.heap.size)):=by
 have hp:=h.lt
 have z1:w1.heap.size=w.heap.size+1:=by subst e1;simp
 have z2:w2.heap.size=w.heap.size+2:=by subst e2;simp [z1]
 have z3:w3.heap.size=w.heap.size+3:=by subst e3;simp [z2]
 have hb:Blk w4 p 212 (pg0 d f):=by subst e4 e3 e2 e1;exact (((h.alloc _).alloc _).alloc _).alloc _
 have K:Keeps (λ k=>k=p) w4 ((((w4.setCell ⟨p,5,none⟩ (.map (some w.heap.size))).setCell ⟨p,6,none⟩ (.map (some w1.heap.size))).setCell ⟨p,7,none⟩ (.map (some w2.heap.size))).setCell ⟨p,8,none⟩ (ptrV w3.heap.size)):=
  ((((Keeps.refl (λ k=>k=p) w4).setCell (p:=⟨p,5,none⟩) (λ _=>rfl) _).setCell (p:=⟨p,6,none⟩) (λ _=>rfl) _).setCell (p:=⟨p,7,none⟩) (λ _=>rfl) _).setCell (p:=⟨p,8,none⟩) (λ _=>rfl) _
 have K0:Keeps (λ k=>k=p) w w4:=by subst e4 e3 e2 e1;exact ((((Keeps.refl _ w).alloc _).alloc _).alloc _).alloc _
 have m1:MapI w4 w.heap.size [] 0:=by subst e4 e3 e2 e1;exact (((MapI.newM w).allocM _).allocM _).allocM _
 have m2:MapI w4 w1.heap.size [] 0:=by subst e4 e3 e2;exact ((MapI.newM w1).allocM _).allocM _
 have m3:MapI w4 w2.heap.size [] 0:=by subst e4 e3;exact (MapI.newM w2).allocM _
 have m4:Pl w4 w3.heap.size (.slice none 0 0) []:=by subst e4;exact pl_new w3
 refine ⟨rfl,w.heap.size,w1.heap.size,w2.heap.size,w3.heap.size,?_,m1.keeps K (by omega),m2.keeps K (by omega),m3.keeps K (by omega),m4.keeps K (by omega) (λ k e=>by cases e),by omega,by omega,by omega,by omega,K0.trans K λ _ _ e=>e⟩
 exact (((hb.set 5 _).set 6 _).set 7 _).set 8 _
theorem clear_any (p d f:Nat) (w:World) (h:Blk w p 212 (pg0 d f)):Calls Tryz.prog 130 #[ptrV p] w (ClearP p d f w):=by
 have hp:=h.lt
 obtain ⟨w1,e1⟩:=nmz (w.alloc (.map #[] 0))
 obtain ⟨w2,e2⟩:=nmz (w1.alloc (.map #[] 0))
 obtain ⟨w3,e3⟩:=nmz (w2.alloc (.map #[] 0))
 obtain ⟨w4,e4⟩:=nmz (w3.alloc (.cells #[.slice none 0 0] 270))
 have hb:Blk w4 p 212 (pg0 d f):=by subst e4 e3 e2 e1;exact (((h.alloc _).alloc _).alloc _).alloc _
 have HE:=Hdz (clear_end h e1 e2 e3 e4)
 have f5:=hb.frozen 5
 have f6:=hb.frozen 6
 have f7:=hb.frozen 7
 have f8:=hb.frozen 8
 have c5:w4.cell? ⟨p,5,none⟩=some (.map none):=hb.cell 5
 have c6:w4.cell? ⟨p,6,none⟩=some (.map none):=hb.cell 6
 have c7:w4.cell? ⟨p,7,none⟩=some (.map none):=hb.cell 7
 have c8:w4.cell? ⟨p,8,none⟩=some (.pointer none):=hb.cell 8
 have hN:=Hdz (pileNew_any w3)
 rw [e4] at hN
 subst e1 e2 e3
 clear e4 hb h
 have hMM:∀ (t:TypeId) (W:World),(Instr.makeMap t none).run Tryz.prog W=.ok (.map (some W.heap.size)) (W.alloc (.map #[] 0)):=λ t W=>run_makeMap t W
 go_enter Tryz.func130,Tryz.ntmps130
 go_wp2_with (fail)
 go_must (refine hN.out.mono ?_)
 rintro e w5 ⟨rfl,rfl⟩
 go_wp2_with (fail)
 go_end0
 have hE:=HE.out
 simp only [World.size_alloc] at hE
 exact hE
theorem listNil_any (f:Nat) (w:World) (h:w.cell? ⟨f,0,none⟩=some (.slice none 0 0)) :
  Calls Tryz.prog 175 #[ptrV f] w λ e w'=>e=.returned (.slice none 0 0)/\Below w.heap.size w w':=by
 go_enter Tryz.func175,Tryz.ntmps175
 have hV:Calls Tryz.prog 212 #[.slice none 0 0] w λ e w'=>e=.returned (.func (.func 246) #[] #[.pointer (some ⟨w.heap.size,0,none⟩)])/\w.alloc (.cells #[.slice none 0 0] 268)=w':=by
  go_enter Tryz.func212,Tryz.ntmps212
  go_wp2
  go_ret
  exact ⟨rfl,rfl⟩
 go_wp2_with (fail)
 go_must (refine hV.mono ?_)
 rintro e w1 ⟨rfl,rfl⟩
 go_wp2_with (fail)
 go_must (refine (sorted_nil (Blk.new _ _ _)).mono ?_)
 rintro e w2 ⟨rfl,hk⟩
 go_wp2_with (fail)
 go_ret
 refine ⟨rfl,((Below.refl _ w).alloc (Nat.le_refl _) _).trans (hk.below (by simp) λ i hi e=>by omega)⟩
theorem freeAll_any (f:Nat) (w:World) (h:Blk w f 274 #[.slice none 0 0,.slice none 0 0,.map none]) :
  Calls Tryz.prog 128 #[ptrV f] w λ e w'=>e=.returned (.slice none 0 0)/\Below w.heap.size w w':=by
 have hL:=Hdz (listNil_any f w (h.cell 0))
 have hlt:=h.lt
 have g1:w.cell? ⟨f,1,none⟩=some (.slice none 0 0):=h.cell 1
 clear h
 go_enter Tryz.func128,Tryz.ntmps128
 go_wp2_with (fail)
 go_must (refine hL.out.mono ?_)
 rintro e w1 ⟨rfl,hb⟩
 have g1':w1.cell? ⟨f,1,none⟩=some (.slice none 0 0):=(hb.cell (p:=⟨f,1,none⟩) hlt).trans g1
 go_wp2_with (fail)
 go_loopg [3,17] 0 (λ gk s3 s17 wr=>s3=.slice none 0 0/\s17=.int .i64 0/\wr=w1)
 case atStart=>exact ⟨rfl,rfl,rfl⟩
 case round =>
  obtain ⟨rfl,rfl,rfl⟩:=hrel
  go_wp2_with (fail)
  go_must (refine (sort_nil _).mono ?_)
  rintro e w2 ⟨rfl,hb2⟩
  go_wp2_with (fail)
  go_ret
  exact ⟨rfl,hb.trans (hb2.mono hb.size)⟩
theorem indexNil_any (F:Value) (w:World):Calls Tryz.prog 174 #[.slice none 0 0,F] w λ e w'=>e=.returned (.int .i64 (-1))/\w=w':=by
 go_enter Tryz.func174,Tryz.ntmps174
 go_wp2_with (fail)
 go_loopg [8] 0 (λ gk s8 wr=>s8=.int .i64 0/\wr=w)
 case atStart=>exact ⟨rfl,rfl⟩
 case round =>
  obtain ⟨rfl,rfl⟩:=hrel
  go_wp2_with (fail)
  go_ret
  exact ⟨rfl,rfl⟩
theorem containsNil_any (F:Value) (w:World):Calls Tryz.prog 127 #[.slice none 0 0,F] w λ e w'=>e=.returned (.bool false)/\w=w':=by
 go_enter Tryz.func127,Tryz.ntmps127
 go_wp2_with (fail)
 go_must (refine (indexNil_any _ _).mono ?_)
 rintro e w1 ⟨rfl,rfl⟩
 go_wp2
 go_ret
 exact ⟨rfl,rfl⟩
def pairCs (q:Pair):List Value:=[strV q.1,strV q.2]
def pairsCs:List Pair->List Value
 | []=>[]
 | q :: l=>pairCs q++pairsCs l
theorem pairsCs_len:∀ l:List Pair,(pairsCs l).length=l.length*2
 | []=>rfl
 | q :: l=>by simp [pairsCs,pairCs,pairsCs_len l];omega
theorem pairsCs_app:∀ a b:List Pair,pairsCs (a++b)=pairsCs a++pairsCs b
 | [],_=>rfl
 | q :: a,b=>by simp [pairsCs,pairsCs_app a b]
theorem pairsCs_one:∀ l:List Pair,∀ u∈pairsCs l,u.oneCell'=true
 | [],u,h=>by simp [pairsCs] at h
 | q :: l,u,h=>by
  simp only [pairsCs,pairCs,List.cons_append,List.nil_append,List.mem_cons] at h
  rcases h with rfl | rfl | h
  ·rfl
  ·rfl
  ·exact pairsCs_one l u h
theorem pairsCs_at:∀ (l:List Pair) (k:Nat) (hk:k<l.length),(pairsCs l)[k*2]? = some (strV l[k].1)/\(pairsCs l)[k*2+1]? = some (strV l[k].2)
 | q :: l,0,_=>⟨rfl,rfl⟩
 | q :: l,k+1,h=>by
  have ih:=pairsCs_at l k (by simpa using h)
  rw [show (k+1)*2=k*2+2 by omega]
  simpa [pairsCs,pairCs] using ih
def aheadP (k:Bytes):List Pair->Nat
 | []=>0
 | q :: l=>if lessB q.1 k then aheadP k l+1 else 0
def isAtP (k:Bytes):List Pair->Bool
 | []=>false
 | q :: l=>if lessB q.1 k then isAtP k l else q.1==k
theorem aheadP_le (k:Bytes):∀ l:List Pair,aheadP k l<=l.length
 | []=>Nat.le_refl _
 | q :: l=>by
  have:=aheadP_le k l
  simp only [aheadP,List.length_cons]
  split<;>omega
theorem isAtP_eq (k:Bytes):∀ l:List Pair,isAtP k l=match l[aheadP k l]? with | some q=>q.1==k | none=>false
 | []=>rfl
 | q :: l=>by
  have ih:=isAtP_eq k l
  simp only [isAtP,aheadP]
  split
  ·rw [ih];simp
  ·simp
theorem infoPair:(Tryz.prog.info? 139).map (λ i=>(i.zero,i.size,i.bytes))=some (some (.agg #[strV [],strV []]),2,32):=by kernel_rfl
theorem row_pair (w:World) (q:Pair) (T:TypeId) (B:Nat) (hB:B=w.heap.size):∀ j v,(pairsCs [q])[j]? = some v->(w.alloc (.cells #[strV q.1,strV q.2] T)).cell? ((⟨B,0,none⟩:Addr).add j)=some v:=by
 intro j v h
 subst hB
 rw [addr_add]
 have hb:=Blk.new w T #[strV q.1,strV q.2]
 match j with
 | 0=>cases h;exact hb.cell 0
 | 1=>cases h;exact hb.cell 1
 | j+2=>simp [pairsCs,pairCs] at h
end Go.Ev
namespace Go.Ev
open Go.Lib
theorem insB_mem {x b:Bk}:∀ {L:List Bk},b∈insB x L->b=x\/b∈L
 | [],h=>.inl (List.mem_singleton.1 h)
 | y :: l,h=>by
  simp only [insB] at h
  split at h
  ·rcases List.mem_cons.1 h with rfl | h
   ·exact .inr (List.mem_cons_self ..)
   ·exact (insB_mem h).imp id λ h=>List.mem_cons_of_mem _ h
  ·split at h
   ·rcases List.mem_cons.1 h with rfl | h
    ·exact .inl rfl
    ·exact .inr h
   ·rcases List.mem_cons.1 h with rfl | h
    ·exact .inl rfl
    ·exact .inr (List.mem_cons_of_mem _ h)
theorem insB_len {x:Bk}:∀ L:List Bk,(insB x L).length<=L.length+1
 | []=>Nat.le_refl _
 | y :: l=>by
  simp only [insB]
  split
  ·have:=insB_len (x:=x) l
   simp only [List.length_cons]
   omega
  ·split
   ·simp
   ·simp
theorem getB_ins {x:Bk}:∀ L:List Bk,getB x.name (insB x L)=some x
 | []=>by simp [insB,getB]
 | y :: l=>by
  simp only [insB]
  split
  ·rename_i h
   simp only [getB]
   rw [if_neg (lessB_ne h),getB_ins l]
  ·split
   ·simp [getB]
   ·simp [getB]
theorem getB_ins_ne {x:Bk} {k:List UInt8} (hk:k≠x.name):∀ L:List Bk,getB k (insB x L)=getB k L
 | []=>by simp only [insB,getB];rw [if_neg (Ne.symm hk)]
 | y :: l=>by
  simp only [insB]
  split
  ·simp only [getB,getB_ins_ne hk l]
  ·rename_i h1
   split
   ·simp only [getB]
    rw [if_neg (Ne.symm hk)]
   ·rename_i h2
    have e:y.name=x.name:=by
     rcases lessB_total y.name x.name with h | h | h
     ·exact absurd h h1
     ·exact h
     ·exact absurd h h2
    simp only [getB]
    rw [if_neg (Ne.symm hk),if_neg (e ▸ Ne.symm hk)]
theorem getB_ins_some {x:Bk} {k:List UInt8} {L:List Bk} (h:getB k L≠none):getB k (insB x L)≠none:=by
 by_cases hk:k=x.name
 ·subst hk
  rw [getB_ins]
  simp
 ·rw [getB_ins_ne hk]
  exact h
def OneK (ps:List Pair):Prop:=ps=[]\/∃ v:List UInt8,v.length<=1/\ps=[([107],v)]
theorem OneK.small {ps:List Pair} (h:OneK ps):ps.length<=1/\sumV ps<=1:=by
 rcases h with rfl | ⟨u,hu,rfl⟩
 ·simp [sumV]
 ·simp only [sumV,List.length_cons,List.length_nil]
  omega
structure FewB (i:Nat) (rn:Nat) (L:List Bk):Prop where
 len:L.length<=i
 top:rn<=i
 each:∀ b∈L,b.t.n<=i/\OneK b.t.ps
theorem FewB.mono {i j rn:Nat} {L:List Bk} (h:FewB i rn L) (hij:i<=j):FewB j rn L:=⟨Nat.le_trans h.len hij,Nat.le_trans h.top hij,λ b hb=>⟨Nat.le_trans (h.each b hb).1 hij,(h.each b hb).2⟩⟩
theorem FewB.ins {i rn:Nat} {L:List Bk} (h:FewB i rn L) {x:Bk} (hn:x.t.n<=i+1) (hx:OneK x.t.ps):FewB (i+1) (rn+1) (insB x L):=
 ⟨Nat.le_trans (insB_len L) (Nat.succ_le_succ h.len),Nat.succ_le_succ h.top,λ b hb=>by
  rcases insB_mem hb with rfl | hb
  ·exact ⟨hn,hx⟩
  ·exact ⟨Nat.le_succ_of_le (h.each b hb).1,(h.each b hb).2⟩⟩
theorem ndT_one:∀ {T:List Tr},(∀ t∈T,t.ps.length<=1/\sumV t.ps<=1)->ndT T<=480*T.length
 | [],_=>Nat.zero_le _
 | t :: T,h=>by
  have ih:=ndT_one λ x hx=>h x (List.mem_cons_of_mem _ hx)
  obtain ⟨h1,h2⟩:=h t (List.mem_cons_self ..)
  have hw:=ndP_W t.n t.ps
  unfold ndW at hw
  rw [if_pos h1] at hw
  simp only [ndT,List.length_cons]
  omega
theorem sumV_top:∀ L:List Bk,sumV (topP L)=4*L.length
 | []=>rfl
 | b :: L=>by
  have:=sumV_top L
  unfold topP at this ⊢
  simp only [List.map_cons,sumV,List.length_cons,this,fix4_len]
  omega
theorem FewB.nd {i rn:Nat} {L:List Bk} (h:FewB i rn L) (hi:i<=124):ndT (⟨0,topP L,[],rn⟩ :: L.map (·.t))<=596000:=by
 have h1:ndT (L.map (·.t))<=480*(L.map (·.t)).length:=ndT_one λ t ht=>by
  obtain ⟨b,hb,rfl⟩:=List.mem_map.1 ht
  exact (h.each b hb).2.small
 rw [List.length_map] at h1
 have h2:=h.len
 have h3:(topP L).length=L.length:=by unfold topP;rw [List.length_map]
 have h4:min rn 17*L.length<=17*124:=Nat.mul_le_mul (Nat.min_le_right _ _) (by omega)
 have hw:=ndP_W rn (topP L)
 simp only [ndW,h3,sumV_top] at hw
 simp only [ndT]
 split at hw
 ·omega
 ·omega
theorem FewB.roomy {i rn:Nat} {L:List Bk} (h:FewB i rn L) (hi:i<=124):Roomy 3000 rn L:=
 ⟨by have:=h.top;omega,λ b hb=>by have:=(h.each b hb).1;omega,by have:=h.nd hi;omega⟩
end Go.Ev
namespace Go.Ev
open Go.Proofs Go.RowKit
theorem pgInv_new:PgInv 2 [] [] []:=by
 refine ⟨List.nodup_nil,List.nodup_nil,List.nodup_nil,λ k=>Iff.rfl,λ k=>⟨λ h=>by omega,λ h=>by rcases h with h | h<;>cases h⟩,(λ k h=>by cases h),(λ k v h=>by cases h),Nat.le_refl _,(λ k v h=>by cases h)⟩
theorem pages_new:Pages [] (λ _=>none):=λ _=>rfl
theorem pgOk_new {m:Nat} (hm:4<=m/\m<=3000) {w:World} {p d f mb db wb sb B:Nat} {sy nw:Value} (h:Blk w p 212 #[ptrV d,ptrV f,.int .i64 2,.int .i64 2,.int .i64 1,.map (some mb),.map (some db),.map (some wb),ptrV sb])
  (hf:Blk w f 274 #[.slice none 0 0,.slice none 0 0,.map none]) (hd:DevAt w d m 2 sy nw) (m1:MapI w mb [] 0) (m2:MapI w db [] 0) (m3:MapI w wb [] 0) (hs:Pl w sb (.slice none 0 0) [])
  (hdB:d<B) (hfB:f<B) (hsy:∀ k,sy.ownBlock=some k->k<B) (hnw:∀ k,nw.ownBlock=some k->k<B) (hp:B<=p) (h1:p<mb) (h2:mb<db) (h3:db<wb) (h4:wb<sb) :
  PgOk w p ⟨d,f,mb,db,wb,sb,.slice none 0 0,sy,nw⟩ m (λ _=>none) 0:=by
 have hdf:d≠f:=by
  rintro rfl
  have:=(hd.blk.eq hf).1
  revert this
  decide
 have hsyd:∀ k,sy.ownBlock=some k->k≠d/\k≠f:=λ k e=>by
  obtain ⟨cs,hr⟩:=hd.srow
  exact ⟨own_ne hr hd.blk (by decide) k e,own_ne hr hf (by decide) k e⟩
 have hnwd:∀ k,nw.ownBlock=some k->k≠d/\k≠f:=λ k e=>by
  obtain ⟨cs,hr⟩:=hd.nrow
  exact ⟨own_ne hr hd.blk (by decide) k e,own_ne hr hf (by decide) k e⟩
 refine ⟨2,[],[],0,0,0,[],⟨h,hf,hd,m1,m2,m3,hs,?_,?_,?_,?_,⟨Nat.le_refl _,by omega⟩,Clk.nil _⟩,pgInv_new,pages_new,rfl⟩
 ·simp only [Pc.ids,List.nodup_cons,List.mem_cons,List.not_mem_nil,or_false,not_or,List.nodup_nil,not_false_eq_true,and_true]
  refine ⟨⟨?_,?_,?_,?_,?_,?_⟩,⟨hdf,?_,?_,?_,?_⟩,⟨?_,?_,?_,?_⟩,⟨?_,?_,?_⟩,⟨?_,?_⟩,?_⟩<;>omega
 ·intro k e;cases e
 ·intro k e hm
  have a:=hsyd k e
  have b:=hsy k e
  simp only [Pc.ids,List.mem_cons,List.not_mem_nil,or_false] at hm
  rcases hm with hm | hm | hm | hm | hm | hm | hm<;>omega
 ·intro k e hm
  have a:=hnwd k e
  have b:=hnw k e
  simp only [Pc.ids,List.mem_cons,List.not_mem_nil,or_false] at hm
  rcases hm with hm | hm | hm | hm | hm | hm | hm<;>omega
def PNewP (m d f:Nat) (sy nw:Value) (w:World) (e:Ending) (w':World):Prop:=
 ∃ p c,e=.returned (.tuple #[ptrV p,.int .i64 0])/\PgOk w' p c m (λ _=>none) 0/\(∀ k,c.S p k->k=d\/k=f\/sy.ownBlock=some k\/nw.ownBlock=some k\/w.heap.size<=k)/\Below w.heap.size w w'
theorem pnew_end {m:Nat} (hm:4<=m/\m<=3000) {d f p:Nat} {sy nw:Value} {w w1 w2 w3:World} (hd:DevAt w d m 2 sy nw) (hf:Blk w f 274 #[.slice none 0 0,.slice none 0 0,.map none]) (h1:Below w.heap.size w w1) (hp:p=w1.heap.size) (e2:w1.alloc (.cells (pg0 d f) 212)=w2) {e:Ending} (hc:ClearP p d f w2 e w3) :
  PNewP m d f sy nw w (.returned (.tuple #[ptrV p,.int .i64 0])) w3:=by
 have hb2:Below w.heap.size w w2:=by subst e2;exact h1.alloc h1.size _
 have z2:w2.heap.size=w1.heap.size+1:=by subst e2;simp
 have hz:=h1.size
 obtain ⟨_,mb,db,wb,sb,k1,k2,k3,k4,k5,k6,k7,k8,k9,kK⟩:=hc
 have hb3:Below w.heap.size w w3:=hb2.trans (kK.below (by omega) (λ i hi e=>by omega))
 have hd3:DevAt w3 d m 2 sy nw:=hd.keeps (S:=λ _=>False) (Keeps.of_below hb3) λ _ _ h=>h
 have hf3:=hf.below' hb3
 refine ⟨p,_,rfl,pgOk_new hm (B:=w.heap.size) k1 hf3 hd3 k2 k3 k4 k5 hd.blk.lt hf.lt ?_ ?_ (by omega) (by omega) k7 k8 k9,?_,hb3⟩
 ·intro k e;obtain ⟨cs,hr⟩:=hd.srow;exact (hr.lt k e).2
 ·intro k e;obtain ⟨cs,hr⟩:=hd.nrow;exact (hr.lt k e).2
 ·rintro k (hk | hk | hk | hk)
  ·simp only [Pc.ids,List.mem_cons,List.not_mem_nil,or_false] at hk
   rcases hk with hk | hk | hk | hk | hk | hk | hk
   ·right;right;right;right;omega
   ·left;omega
   ·right;left;omega
   ·right;right;right;right;omega
   ·right;right;right;right;omega
   ·right;right;right;right;omega
   ·right;right;right;right;omega
  ·cases hk
  ·exact .inr (.inr (.inl hk))
  ·exact .inr (.inr (.inr (.inl hk)))
theorem pagerNew_any {m:Nat} (hm:4<=m/\m<=3000) (d f:Nat) (sy nw:Value) (w:World) (hd:DevAt w d m 2 sy nw) (hf:Blk w f 274 #[.slice none 0 0,.slice none 0 0,.map none]) :
  Calls Tryz.prog 77 #[ptrV d,ptrV f,.int .i64 2,.int .i64 1] w (PNewP m d f sy nw w):=by
 have hb0:Below w.heap.size w (w.alloc (.cells #[.int .i64 2] 3)).drew:=((Below.refl _ w).alloc (Nat.le_refl _) _).drew
 have bx:Blk (w.alloc (.cells #[.int .i64 2] 3)).drew w.heap.size 3 #[.int .i64 2]:=(Blk.new _ _ _).drew
 have x0:(w.alloc (.cells #[.int .i64 2] 3)).drew.cell? ⟨w.heap.size,0,none⟩=some (.int .i64 2):=bx.cell 0
 have hL:=Hdz (devLen_any d m 2 sy nw _ (hd.keeps (S:=λ _=>False) (Keeps.of_below hb0) λ _ _ h=>h))
 have hA:=Hdz (freeAll_any f _ (hf.below' hb0))
 have hE:=Hdz (λ (w1 w2 w3:World) (p:Nat) (h1:Below w.heap.size w w1) (hp:p=w1.heap.size) e2 e hc=>pnew_end hm (w1:=w1) (w2:=w2) (w3:=w3) (e:=e) hd hf h1 hp e2 hc)
 have hzz:(w.alloc (.cells #[.int .i64 2] 3)).drew.heap.size=w.heap.size+1:=by simp
 have HB:=Hdz hb0
 have HBX:=Hdz bx
 have X0:=Hdz x0
 clear hd hf hb0 bx x0
 go_enter Tryz.func77,Tryz.ntmps77
 go_wp2_with (fail)
 have x0:=X0.out
 refine wRz ?_
 try simp only [lAz]
 refine tA 0 ?_;try simp only [lAz]
 refine tA 1 ?_;try simp only [lAz]
 refine tA 2 ?_;try simp only [lAz]
 refine tA 3 ?_;try simp only [lAz]
 refine tA 4 ?_;try simp only [lAz]
 refine tA 5 ?_;try simp only [lAz]
 refine tA 6 ?_;try simp only [lAz]
 refine rZz 7 λ K hK=>?_;go_simp;apply hK;clear hK K
 try simp only [lAz]
 refine tA 8 ?_;try simp only [lAz]
 refine tA 9 ?_;try simp only [lAz]
 refine tA 10 ?_;try simp only [lAz]
 refine tA 12 ?_;try simp only [lAz]
 refine wpAny_ready (rs:=[11,13]) (by kernel_rfl) (by simp) (aCz (λ K hK=>?_) (aCz (λ K hK=>?_) AllReady.nil))
 ·go_simp
  apply hK
  clear hK K
  refine rZz 13 λ K hK=>?_;go_simp
  (go_must (refine hL.out.mono ?_);rintro e w2 ⟨rfl,rfl⟩)
  go_simp
  apply hK
  clear hK K
  try simp only [lAz]
  refine tA 14 ?_;try simp only [lAz]
  refine tA 15 ?_;try simp only [lAz]
  refine tA 16 ?_;try simp only [lAz]
  refine tA 17 ?_;try simp only [lAz]
  refine tA 18 ?_;try simp only [lAz]
  refine tA 19 ?_;try simp only [lAz]
  refine wDz ?_
  go_wp2_with (fail)
  go_must (refine hA.out.mono ?_)
  rintro e w3 ⟨rfl,hb3⟩
  have x3:w3.cell? ⟨w.heap.size,0,none⟩=some (.int .i64 2):=(HBX.out.below' hb3).cell 0
  have hz3:=hb3.size
  go_wp2_with (fail)
  go_must (refine (containsNil_any _ _).mono ?_)
  rintro e w4 ⟨rfl,rfl⟩
  go_wp2_with (fail)
  go_must (refine (clear_any w3.heap.size d f _ (Blk.new _ _ _)).mono ?_)
  intro e w5 hc
  have HC:=Hdz hc
  obtain ⟨rfl,_⟩:=hc
  go_wp2_with (fail)
  go_ret2
  exact hE.out w3 _ w5 w3.heap.size (HB.out.trans (hb3.mono (by simp))) rfl rfl _ HC.out
 ·go_simp
  (go_must (refine hL.out.mono ?_);rintro e w2 ⟨rfl,rfl⟩)
  go_simp
  apply hK
  clear hK K
  refine rZz 11 λ K hK=>?_;go_simp;apply hK;clear hK K
  try simp only [lAz]
  refine tA 14 ?_;try simp only [lAz]
  refine tA 15 ?_;try simp only [lAz]
  refine tA 16 ?_;try simp only [lAz]
  refine tA 17 ?_;try simp only [lAz]
  refine tA 18 ?_;try simp only [lAz]
  refine tA 19 ?_;try simp only [lAz]
  refine wDz ?_
  go_wp2_with (fail)
  go_must (refine hA.out.mono ?_)
  rintro e w3 ⟨rfl,hb3⟩
  have x3:w3.cell? ⟨w.heap.size,0,none⟩=some (.int .i64 2):=(HBX.out.below' hb3).cell 0
  have hz3:=hb3.size
  go_wp2_with (fail)
  go_must (refine (containsNil_any _ _).mono ?_)
  rintro e w4 ⟨rfl,rfl⟩
  go_wp2_with (fail)
  go_must (refine (clear_any w3.heap.size d f _ (Blk.new _ _ _)).mono ?_)
  intro e w5 hc
  have HC:=Hdz hc
  obtain ⟨rfl,_⟩:=hc
  go_wp2_with (fail)
  go_ret2
  exact hE.out w3 _ w5 w3.heap.size (HB.out.trans (hb3.mono (by simp))) rfl rfl _ HC.out
def BaseP (m:Nat) (w:World) (e:Ending) (w':World):Prop:=
 ∃ d g f h sy nw,e=.returned (.tuple #[ptrV d,ptrV g,ptrV f,ptrV h,.bool true])/\DevAt w' d m 2 sy nw/\Blk w' f 274 #[.slice none 0 0,.slice none 0 0,.map none]/\w.heap.size<=d/\w.heap.size<=f/\(∀ k,sy.ownBlock=some k->w.heap.size<=k)/\(∀ k,nw.ownBlock=some k->w.heap.size<=k)/\Below w.heap.size w w'
theorem devNew3 {m:Nat} (hm:4<=m/\m<=3000) (w:World):Calls Tryz.prog 120 #[.int .i64 (m:Int)] w λ e w'=>e=.returned (.tuple #[ptrV w.heap.size,.int .i64 0])/\DevAt w' w.heap.size m 0 (.slice none 0 0) (.slice none 0 0)/\Below w.heap.size w w'/\w'.heap.size=w.heap.size+1:=
 (devNew_any m w (by omega) hm.2).mono λ e w' ⟨h1,h2⟩=>⟨h1,h2 ▸ DevAt.new m w hm.2,h2 ▸ (Below.refl _ w).alloc (Nat.le_refl _) _,by rw [<- h2];simp⟩
theorem refNew3 {m:Nat} (hm:4<=m/\m<=3000) (w:World):Calls Tryz.prog 121 #[.int .i64 (m:Int)] w λ e w'=>e=.returned (.tuple #[ptrV w.heap.size,.int .i64 0])/\Blk w' w.heap.size 265 (refDev m)/\Below w.heap.size w w'/\w'.heap.size=w.heap.size+1:=
 (refNew_any m w (by omega) hm.2).mono λ e w' ⟨h1,h2⟩=>⟨h1,h2 ▸ Blk.new _ _ _,h2 ▸ (Below.refl _ w).alloc (Nat.le_refl _) _,by rw [<- h2];simp⟩
theorem freeNew3 (w:World):Calls Tryz.prog 124 #[.slice none 0 0] w λ e w'=>e=.returned (ptrV w.heap.size)/\Blk w' w.heap.size 274 #[.slice none 0 0,.slice none 0 0,.map none]/\Below w.heap.size w w'/\w'.heap.size=w.heap.size+1:=
 (freeNew_any w).mono λ e w' ⟨h1,h2⟩=>⟨h1,h2 ▸ Blk.new _ _ _,h2 ▸ (Below.refl _ w).alloc (Nat.le_refl _) _,by rw [<- h2];simp⟩
theorem base_end {m:Nat} {w w1 w2 w3 w4 w5 w6:World} {sy nw:Value} {T:TypeId} {V:Array Value} (a1:DevAt w1 w.heap.size m 0 (.slice none 0 0) (.slice none 0 0)) (b1:Below w.heap.size w w1) (z1:w1.heap.size=w.heap.size+1)
  (b2:Below w1.heap.size w1 w2) (z2:w2.heap.size=w1.heap.size+1) (a2:Blk w2 w1.heap.size 265 (refDev m))
  (a3:DevAt w3 w.heap.size m 2 sy nw) (k3:GrowK w.heap.size (.slice none 0 0) (.slice none 0 0) sy nw w2 w3) (k4:Keeps (λ k=>k=w1.heap.size) w3 w4) (a5:Blk w5 w4.heap.size 274 #[.slice none 0 0,.slice none 0 0,.map none])
  (b5:Below w4.heap.size w4 w5) (b6:Below w5.heap.size w5 w6) :
  BaseP m w (.returned (.tuple #[ptrV w.heap.size,ptrV w1.heap.size,ptrV w4.heap.size,ptrV w6.heap.size,.bool true])) (w6.alloc (.cells V T)):=by
 have hz3:=k3.keeps.size
 have hz4:=k4.size
 have hz5:=b5.size
 have hz6:=b6.size
 have c2:Below w.heap.size w w2:=b1.trans (b2.mono (by omega))
 have c3:Below w.heap.size w w3:=c2.trans (k3.keeps.below (by omega) (λ i hi e=>by
  rcases e with e | e | e
  ·omega
  ·cases e
  ·cases e))
 have c4:Below w.heap.size w w4:=c3.trans (k4.below (by omega) (λ i hi e=>by omega))
 have c5:Below w.heap.size w w5:=c4.trans (b5.mono (by omega))
 have c6:Below w.heap.size w w6:=c5.trans (b6.mono (by omega))
 have c7:Below w.heap.size w (w6.alloc (.cells V T)):=c6.alloc (by omega) _
 have a2':Blk w3 w1.heap.size 265 (refDev m):=a2.keeps k3.keeps (λ e=>by
  rcases e with e | e | e
  ·omega
  ·cases e
  ·cases e)
 have a4:DevAt w4 w.heap.size m 2 sy nw:=a3.keeps k4 (λ k hk e=>by
  subst e
  rcases hk with e | e | e
  ·omega
  ·obtain ⟨cs,hr⟩:=a3.srow
   exact own_ne hr a2' (by decide) _ e rfl
  ·obtain ⟨cs,hr⟩:=a3.nrow
   exact own_ne hr a2' (by decide) _ e rfl)
 have b46:Below w4.heap.size w4 (w6.alloc (.cells V T)):=(b5.trans (b6.mono (by omega))).alloc (by omega) _
 have a6:DevAt (w6.alloc (.cells V T)) w.heap.size m 2 sy nw:=a4.keeps (S:=λ _=>False) (Keeps.of_below b46) λ _ _ h=>h
 refine ⟨w.heap.size,w1.heap.size,w4.heap.size,w6.heap.size,sy,nw,rfl,a6,(a5.below' b6).alloc _,Nat.le_refl _,by omega,λ k e=>?_,λ k e=>?_,c7⟩
 ·rcases k3.sy k e with h | h
  ·cases h
  ·omega
 ·rcases k3.nw k e with h | h
  ·cases h
  ·omega
theorem base_any {m:Nat} (hm:4<=m/\m<=3000) (w:World):Calls Tryz.prog 76 #[.int .i64 (m:Int),.int .i64 2,.slice none 0 0] w (BaseP m w):=by
 go_enter Tryz.func76,Tryz.ntmps76
 go_wp2_with (fail)
 go_must (refine (devNew3 hm w).mono ?_)
 rintro e w1 ⟨rfl,a1,b1,z1⟩
 have A1:=Hdz a1
 have B1:=Hdz b1
 have Z1:=Hdz z1
 clear a1 b1 z1
 go_wp2_with (fail)
 go_must (refine (refNew3 hm w1).mono ?_)
 rintro e w2 ⟨rfl,a2,b2,z2⟩
 have a1':DevAt w2 w.heap.size m 0 (.slice none 0 0) (.slice none 0 0):=A1.out.keeps (S:=λ _=>False) (Keeps.of_below b2) λ _ _ h=>h
 have A2:=Hdz a2
 have B2:=Hdz b2
 have Z2:=Hdz z2
 have hG:=Hdz (devTo_any w.heap.size m 0 2 _ _ w2 a1' (by omega) (by omega))
 clear a2 b2 z2 a1'
 go_wp2_with (fail)
 go_must (refine hG.out.mono ?_)
 rintro e w3 ⟨rfl,sy,nw,a3,k3⟩
 have hR:=Hdz (refGrow_any hm (A2.out.keeps k3.keeps (λ e=>by
  have:=Z1.out
  rcases e with e | e | e
  ·omega
  ·cases e
  ·cases e)))
 have A3:=Hdz a3
 have K3:=Hdz k3
 clear a3 k3 hG
 go_wp2_with (fail)
 go_must (refine hR.out.mono ?_)
 rintro e w4 ⟨rfl,k4⟩
 have K4:=Hdz k4
 clear k4 hR
 go_wp2_with (fail)
 go_must (refine (freeNew3 w4).mono ?_)
 rintro e w5 ⟨rfl,a5,b5,z5⟩
 have A5:=Hdz a5
 have B5:=Hdz b5
 clear a5 b5 z5
 go_wp2_with (fail)
 go_must (refine (refSorted_nil w5).mono ?_)
 rintro e w6 ⟨rfl,b6⟩
 have B6:=Hdz b6
 clear b6
 go_wp2_with (fail)
 refine bodyPost_ret (v:=.tuple #[ptrV w.heap.size,ptrV w1.heap.size,ptrV w4.heap.size,ptrV w6.heap.size,.bool true]) (by simp [results,Tryz.results76,go_sem]) rfl ?_
 exact base_end A1.out B1.out Z1.out B2.out Z2.out A2.out A3.out K3.out K4.out A5.out B5.out B6.out
def TNewP (m p:Nat) (c:Pc) (w:World) (e:Ending) (w':World):Prop:=
 ∃ root c',e=.returned (.tuple #[.int .i64 root,.int .i64 0])/\PgOk w' p c' m (updS (λ _=>none) root (some ⟨2,0,[]⟩)) 1/\PgK p c c' w w'
theorem treeNew_any {m:Nat} (hm:4<=m/\m<=3000) (p:Nat) (c:Pc) (w:World) (h:PgOk w p c m (λ _=>none) 0):Calls Tryz.prog 78 #[ptrV p] w (TNewP m p c w):=by
 have hM:=Hdz (make_any ⟨2,0,[]⟩ w h (by simp [Pg.ok]) (by omega))
 clear h
 go_enter Tryz.func78,Tryz.ntmps78
 go_wp2_with (fail)
 go_must (refine hM.out.mono ?_)
 rintro e w1 ⟨root,c',rfl,_,_,_,hp,hk⟩
 have HP:=Hdz hp
 have HK:=Hdz hk
 clear hp hk
 go_wp2_with (fail)
 go_ret2
 exact ⟨root,c',rfl,HP.out,HK.out⟩
def BeginM (m:Nat) (w:World) (e:Ending) (w':World):Prop:=
 ∃ d f p c root,e=.returned (.tuple #[ptrV d,ptrV f,ptrV p,.int .i64 root,.bool true])/\PgOk w' p c m (updS (λ _=>none) root (some ⟨2,0,[]⟩)) 1/\(∀ k,c.S p k->w.heap.size<=k)/\Below w.heap.size w w'
theorem begin_m {m:Nat} (hm:4<=m/\m<=3000) (w:World):Calls Tryz.prog 32 #[.int .i64 (m:Int)] w (BeginM m w):=by
 go_enter Tryz.func32,Tryz.ntmps32
 go_wp2_with (fail)
 go_must (refine (base_any hm w).mono ?_)
 rintro e w1 ⟨d,g,f,h,sy,nw,rfl,hd,hf,d1,d2,d3,d4,b1⟩
 have hN:=Hdz (pagerNew_any hm d f sy nw w1 hd hf)
 have B1:=Hdz b1
 clear hd hf b1
 go_wp2_with (fail)
 go_must (refine hN.out.mono ?_)
 rintro e w2 ⟨p,c,rfl,hp,hs,b2⟩
 have hT:=Hdz (treeNew_any hm p c w2 hp)
 have hz1:=B1.out.size
 have HS:=Hdz (show ∀ k,c.S p k->w.heap.size<=k from λ k hk=>by
  rcases hs k hk with h | h | h | h | h
  ·omega
  ·omega
  ·exact d3 k h
  ·exact d4 k h
  ·omega)
 have B2:=Hdz b2
 clear hp hs b2 hN
 go_wp2_with (fail)
 go_must (refine hT.out.mono ?_)
 rintro e w3 ⟨root,c',rfl,hp,hk⟩
 have HP:=Hdz hp
 have HK:=Hdz hk
 clear hp hk hT
 go_wp2_with (fail)
 refine bodyPost_ret (v:=.tuple #[ptrV d,ptrV f,ptrV p,.int .i64 root,.bool true]) (by simp [results,Tryz.results32,go_sem]) rfl ?_
 have hz2:=B2.out.size
 refine ⟨d,f,p,c',root,rfl,HP.out,λ k hk=>?_,?_⟩
 ·rcases HK.out.sub k hk with h | h
  ·exact HS.out k h
  ·omega
 ·exact (B1.out.trans (B2.out.mono hz1)).trans (HK.out.keeps.below (by omega) λ i hi e=>by have:=HS.out i e;omega)
abbrev BeginP (w:World) (e:Ending) (w':World):Prop:=BeginM 3000 w e w'
theorem begin_any (w:World):Calls Tryz.prog 32 #[.int .i64 3000] w (BeginP w):=begin_m (m:=3000) (by omega) w
end Go.Ev
