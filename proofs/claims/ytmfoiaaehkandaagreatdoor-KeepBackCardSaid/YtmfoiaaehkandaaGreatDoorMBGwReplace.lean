/-
  Texts of this claim.
-/
import Derived.Test.YtmfoiaaehkandaaGreatDoorMBGvEach
import Derived.Test.YtmfoiaaehkandaaGreatDoorMBGwBranch2
set_option linter.unusedVariables false
set_option linter.unusedSimpArgs false
set_option maxHeartbeats 2000000
set_option maxRecDepth 100000
namespace Go.Ev
open Go.Proofs Go.RowKit
structure ChildrenOk (l:List Child):Prop where
 keys:∀ x∈l,x.key.length<=9223372036854775807
 nums:∀ x∈l,I64 x.page
 len:(layC l).length<=100000
 few:l.length<=100000
def PutCPost (l:List Child) (w:World) (e:Ending) (w':World):Prop:=e=.returned (.tuple #[strV (putC l).1,.int .i64 (putC l).2])/\Below w.heap.size w w'
theorem putC_any (A:Option Addr) (n c:Nat) (l:List Child) (w:World) (hv:Sl w 2 (.slice A n c) n (childrenCs l)) (ho:ChildrenOk l) :
  Calls Tryz.prog 242 #[.slice A n c] w (PutCPost l w):=by
 have hn:n<=100000:=by have:=hv.len2;have:=ho.few;omega
 have hR:=λ W (h:Sl W 2 (.slice A n c) n (childrenCs l))=>rightC_any A n c l W h hn ho.keys
 have hLn:=ho.len
 cases hr:rightC l
 ·have hp:=Hdz (show putC l=([],1) by unfold putC;rw [if_pos hr])
  simp only [hr] at hR
  have HR:=Hdz hR
  clear hR hr hLn
  go_enter Tryz.func242,Tryz.ntmps242
  go_wp2_with (go_at_call 270;go_must (refine (HR.out _ hv).mono ?_);rintro e w1 ⟨rfl,hb1⟩)
  go_ret2
  exact ⟨by rw [hp.out]<;>rfl,hb1⟩
 ·simp only [hr] at hR
  have HR:=Hdz hR
  have hL:=Hdz (λ W (h:Sl W 2 (.slice A n c) n (childrenCs l))=>layC_any A n c l W h ho.len hn ho.nums)
  by_cases h240:240<(layC l).length
  ·have hp:=Hdz (show putC l=([],2) by unfold putC;rw [if_neg (by simp [hr]),if_pos h240])
   have h240':(240:Int)<((layC l).length:Int):=by omega
   clear hR hr h240
   go_enter Tryz.func242,Tryz.ntmps242
   go_wp2_with (first
    | (go_at_call 270;go_must (refine (HR.out _ hv).mono ?_);rintro e w1 ⟨rfl,hb1⟩)
    | (go_at_call 271;go_must (refine (hL.out _ (hv.below hb1)).mono ?_);rintro e w2 ⟨rfl,hb2⟩))
   go_ret2
   exact ⟨by rw [hp.out]<;>rfl,hb1.trans (hb2.mono hb1.size)⟩
  ·have hp:=Hdz (show putC l=(layC l,0) by unfold putC;rw [if_neg (by simp [hr]),if_neg h240])
   have h240':¬ (240:Int)<((layC l).length:Int):=by omega
   clear hR hr h240
   go_enter Tryz.func242,Tryz.ntmps242
   go_wp2_with (first
    | (go_at_call 270;go_must (refine (HR.out _ hv).mono ?_);rintro e w1 ⟨rfl,hb1⟩)
    | (go_at_call 271;go_must (refine (hL.out _ (hv.below hb1)).mono ?_);rintro e w2 ⟨rfl,hb2⟩))
   go_ret2
   exact ⟨by rw [hp.out]<;>rfl,hb1.trans (hb2.mono hb1.size)⟩
theorem sizeC_any (A:Option Addr) (n c:Nat) (l:List Child) (w:World) (hv:Sl w 2 (.slice A n c) n (childrenCs l)) (ho:ChildrenOk l) :
  Calls Tryz.prog 272 #[.slice A n c] w λ e w'=>e=.returned (.int .i64 (layC l).length)/\Below w.heap.size w w':=by
 have hn:n<=100000:=by have:=hv.len2;have:=ho.few;omega
 have hL:=Hdz (layC_any A n c l w hv ho.len hn ho.nums)
 have hLn:=ho.len
 go_enter Tryz.func272,Tryz.ntmps272
 go_wp2_with (go_at_call 271;go_must (refine hL.out.mono ?_);rintro e w2 ⟨rfl,hb2⟩)
 go_ret
 exact ⟨rfl,hb2⟩
theorem cloneC_any (A:Addr) (n c:Nat) (l:List Child) (w:World) (hv:Sl w 2 (.slice (some A) n c) n (childrenCs l)) (hn:n<=100000) :
  Calls Tryz.prog 240 #[.slice (some A) n c] w λ e w' =>
   ∃ v',e=.returned v'/\w'.ownsRow w.heap.size 291 2 v' n (childrenCs l)/\Below w.heap.size w w':=by
 obtain ⟨i0,hi,hz0,hz1,hz2⟩:=info_parts (show (Tryz.prog.info? 291).map (λ i=>(i.zero,i.size,i.bytes))=some (some (.agg #[.string ⟨#[]⟩,.int .i64 0]),2,24) by kernel_rfl)
 have q22:∀ (w:World) (a:Option Addr) (n c n' c':Nat),(binOp .eql 240 (.slice a n c) (.slice none n' c')).run Tryz.prog w=.ok (.bool a.isNone) w:=λ w a n c n' c'=>Lib.run_eql_slice_nil w _ 291 a n c n' c' Tryz.underlying240
 go_enter Tryz.func240,Tryz.ntmps240
 go_wp2_with (at_builtin;go_must (refine wpList_append_own _ rfl _ _ 240 rfl w.heap.size 291 i0 _ 2 24 Tryz.underlying240 hi hz0 hz1 hz2 rfl (by decide) _ _ _ rfl (World.ownsRow_made w #[] 0 (Nat.le_refl _) (Nat.zero_le _) rfl) A n c (childrenCs l) rfl ?c0 ?c1 ?c2 ?c3 ?c4 ?c5 ?_))
 case c0 =>
  obtain ⟨_,_,e0,h0,h1,h2⟩:=hv
  simpa using h1
 case c1 =>
  obtain ⟨_,_,e0,h0,h1,h2⟩:=hv
  intro j u hu
  have hj:=(List.getElem?_eq_some_iff.1 hu).1
  obtain ⟨b,o,eA,h4,h5⟩:=h2 (by omega)
  simp only [Value.slice.injEq] at e0
  rw [<- e0.1] at eA
  cases eA
  rw [Addr.add_lit]
  exact Lib.cell?_alloc_some _ (h5 j u hu)
 case c2=>exact childrenCs_one l
 case c3=>unfold maxLen;omega
 case c4=>omega
 case c5=>simp
 intro v' w1 hown hgrow hnil
 go_wp2
 go_ret
 exact ⟨v',rfl,by simpa using hown,((Below.refl _ w).alloc (Nat.le_refl _) _).grown hgrow (by simp) (by intro k hk;simp [Value.ownBlock] at hk;omega)⟩
theorem cloneC_nil (c:Nat) (w:World) :
  Calls Tryz.prog 240 #[.slice none 0 c] w λ e w'=>e=.returned (.slice none 0 0)/\Below w.heap.size w w':=by
 have q22:∀ (w:World) (a:Option Addr) (n c n' c':Nat),(binOp .eql 240 (.slice a n c) (.slice none n' c')).run Tryz.prog w=.ok (.bool a.isNone) w:=λ w a n c n' c'=>Lib.run_eql_slice_nil w _ 291 a n c n' c' Tryz.underlying240
 go_enter Tryz.func240,Tryz.ntmps240
 go_wp2
 go_ret
 exact ⟨rfl,Below.refl _ _⟩
def OwnCPost (l:List Child) (w:World) (e:Ending) (w':World):Prop:=∃ v',e=.returned v'/\w'.ownsRow w.heap.size 291 2 v' l.length (childrenCs l)/\Below w.heap.size w w'
theorem cloneC_all (A:Option Addr) (n c:Nat) (l:List Child) (w:World) (hv:Sl w 2 (.slice A n c) n (childrenCs l)) (hn:n<=100000) :
  Calls Tryz.prog 240 #[.slice A n c] w (OwnCPost l w):=by
 have hl:=hv.len2
 cases A with
 | none =>
  obtain ⟨A',c',e0,h0,h1,h2⟩:=hv
  cases e0
  have h0:n=0:=by
   by_cases h:0<n
   ·obtain ⟨_,_,e,_⟩:=h2 h;cases e
   ·omega
  subst h0
  have:l=[]:=List.eq_nil_of_length_eq_zero hl
  subst this
  exact (cloneC_nil c w).mono λ e w' ⟨he,hb⟩=>⟨_,he,World.ownsRow_nil _ _ _ _,hb⟩
 | some A=>exact (cloneC_any A n c l w hv hn).mono λ e w' ⟨v',he,ho,hb⟩=>⟨v',he,by rw [hl];exact ho,hb⟩
theorem ChildrenOk.take {l:List Child} (h:ChildrenOk l) (i:Nat):ChildrenOk (l.take i):=
 ⟨λ x hx=>h.keys x (List.mem_of_mem_take hx),λ x hx=>h.nums x (List.mem_of_mem_take hx),Nat.le_trans (layC_le l i) h.len,by have:=h.few;rw [List.length_take];omega⟩
theorem ChildrenOk.drop {l:List Child} (h:ChildrenOk l) (i:Nat):ChildrenOk (l.drop i):=by
 refine ⟨λ x hx=>h.keys x (List.mem_of_mem_drop hx),λ x hx=>h.nums x (List.mem_of_mem_drop hx),?_,by have:=h.few;rw [List.length_drop];omega⟩
 have:=h.len
 rw [<- List.take_append_drop i l,layC_append,List.length_append] at this
 omega
def SplitCPost (l:List Child) (w:World) (e:Ending) (w':World):Prop:=
 ∃ v1 v2,e=.returned (.tuple #[v1,v2])/\w'.ownsRow w.heap.size 291 2 v1 (splitC l).1.length (childrenCs (splitC l).1)/\w'.ownsRow w.heap.size 291 2 v2 (splitC l).2.length (childrenCs (splitC l).2)/\Below w.heap.size w w'
theorem splitC_any (A:Option Addr) (n c:Nat) (l:List Child) (w:World) (hv:Sl w 2 (.slice A n c) n (childrenCs l)) (ho:ChildrenOk l) (hn:n<=90000) :
  Calls Tryz.prog 243 #[.slice A n c] w (SplitCPost l w):=by
 have hl:=hv.len2
 subst hl
 by_cases h2:l.length<2
 ·have hC:=Hdz (cloneC_all A _ c l w hv (by omega))
  have hS:=Hdz (show splitC l=(l,[]) by unfold splitC;rw [if_pos h2])
  go_enter Tryz.func243,Tryz.ntmps243
  go_wp2_with (fail)
  go_must (refine hC.out.mono ?_)
  rintro e w1 ⟨v',rfl,hown,hb1⟩
  go_wp2_with (fail)
  go_ret2
  exact ⟨v',_,rfl,by rw [hS.out];exact hown,by rw [hS.out];exact World.ownsRow_nil _ _ _ _,hb1⟩
 ·have hS:=Hdz (show splitC l=(l.take (bestAt (costC l) l.length),l.drop (bestAt (costC l) l.length)) by unfold splitC;rw [if_neg h2])
  have h2':¬ (l.length:Int)<2:=by omega
  obtain ⟨A',c',e0,h0,h1,hA⟩:=id hv
  cases e0
  obtain ⟨blk,off,rfl,hbl,hcell⟩:=hA (by omega)
  clear hA h1 hcell
  have hbest:=Hdz (bestAt_spec (costC l) (show 2<=l.length by omega))
  have hZ1:=Hdz (λ i W h=>sizeC_any (some ⟨blk,off,none⟩) i c (l.take i) W h (ho.take i))
  have hZ2:=Hdz (λ i W h=>sizeC_any (some ⟨blk,off+i*2,none⟩) (l.length-i) (c-i) (l.drop i) W h (ho.drop i))
  go_enter Tryz.func243,Tryz.ntmps243
  go_wp2_with (fail)
  go_loopg [4,5,6] l.length (λ g s4 s5 s6 wr=>∃ best k sz:Nat,s4=.int .i64 best/\s5=.int .i64 sz/\s6=.int .i64 k/\1<=k/\k<=l.length/\l.length-k<=g/\best<k/\(best≠0->sz=costC l best)/\sz<=100000/\Hid (bestFrom (costC l) (l.length-k) k best=bestAt (costC l) l.length)/\Below w.heap.size w wr)
  case atStart=>exact ⟨0,1,0,rfl,rfl,rfl,by omega,by omega,by omega,by omega,by simp,by omega,rfl,Below.refl _ _⟩
  case round =>
   obtain ⟨best,k,sz,rfl,rfl,rfl,hk1,hk2,hg,hbk,hsz,hszb,hI,hb⟩:=hrel
   have hz:=hb.size
   by_cases hlt:k<l.length
   ·have hst:=Hdz (bestFrom_step (costC l) (best:=best) hlt)
    have hvw:=hv.below (hb.mono (Nat.le_refl _))
    have q1:=hZ1.out k _ (by rw [<- childrenCs_take];exact Sl.take hvw.drew (by omega))
    have q2:=λ W (h:Below wr.heap.size wr.drew W)=>hZ2.out k W (by rw [<- childrenCs_drop];exact Sl.drop (Sl.below hvw.drew h) (by omega))
    have Q1:=Hdz q1
    have Q2:=Hdz q2
    clear q1 q2
    have hci1:¬ (c=k):=by omega
    have hkc:k<=c:=by omega
    have hkl:k<=l.length:=by omega
    have hkk:(0:Int)<=(k:Int)/\(k:Int)<=(l.length:Int):=by omega
    obtain ⟨hkk1,hkk2⟩:=hkk
    go_wp2
    refine wRz ?_
    try simp only [lAz]
    refine tA 0 ?_;try simp only [lAz]
    refine tA 1 ?_;try simp only [lAz]
    refine tA 2 ?_;try simp only [lAz]
    refine tA 4 ?_;try simp only [lAz]
    refine tA 5 ?_;try simp only [lAz]
    refine tA 6 ?_;try simp only [lAz]
    refine rZz 3 λ K hK=>?_;go_simp
    (go_must (refine Q1.out.mono ?_);rintro e w1 ⟨rfl,hb1⟩)
    go_simp
    apply hK
    clear hK K
    refine rZz 7 λ K hK=>?_;go_simp
    (go_must (refine (Q2.out _ hb1).mono ?_);rintro e w2 ⟨rfl,hb2⟩)
    go_simp
    apply hK
    clear hK K
    refine rZz 8 λ K hK=>?_;go_simp;apply hK;clear hK K
    refine rZz 9 λ K hK=>?_;go_simp;apply hK;clear hK K
    refine wDz ?_
    have hmx:max ((List.length (layC (List.take k l)):Nat):Int) (List.length (layC (List.drop k l)):Nat)=((costC l k:Nat):Int):=by unfold costC;omega
    have hcb:costC l k<=100000:=by
     have h1:=(ho.take k).len
     have h2:=(ho.drop k).len
     unfold costC
     omega
    rw [hmx]
    have hbw:Below w.heap.size w w2:=hb.drew.trans ((hb1.mono (by simp;omega)).trans (hb2.mono (by have:=hb1.size;simp at this;omega)))
    clear hmx Q1 Q2 hZ1 hZ2
    by_cases hb0:best=0
    ·have e1:((best:Int)==0)=true:=by simp [hb0]
     have hI2:=Hdz (hst.out.symm.trans hI)
     rw [if_pos (.inl hb0)] at hI2
     clear hst hI hsz hb0
     go_wp2
     go_roundg (l.length-(k+1))
     case measure=>omega
     case rel=>exact ⟨k,k+1,costC l k,rfl,rfl,by go_num,by omega,by omega,by omega,by omega,λ _=>rfl,hcb,hI2,hbw⟩
    ·have e1:((best:Int)==0)=false:=by simpa using hb0
     have hs0:=hsz hb0
     by_cases hcl:costC l k<sz
     ·have hI2:=Hdz (hst.out.symm.trans hI)
      rw [if_pos (.inr (by omega))] at hI2
      have hcl':((costC l k:Nat):Int)<(sz:Int):=by omega
      clear hst hI hsz hb0 hs0 hcl
      go_wp2
      go_roundg (l.length-(k+1))
      case measure=>omega
      case rel=>exact ⟨k,k+1,costC l k,rfl,rfl,by go_num,by omega,by omega,by omega,by omega,λ _=>rfl,hcb,hI2,hbw⟩
     ·have hI2:=Hdz (hst.out.symm.trans hI)
      rw [if_neg (by rw [<- hs0];intro h;rcases h with h | h;exact hb0 h;exact hcl h)] at hI2
      have hcl':¬ ((costC l k:Nat):Int)<(sz:Int):=by omega
      have HS0:=Hdz hsz
      clear hst hI hsz hb0 hs0 hcl
      go_wp2
      go_roundg (l.length-(k+1))
      case measure=>omega
      case rel=>exact ⟨best,k+1,sz,rfl,rfl,by go_num,by omega,by omega,by omega,by omega,HS0.out,hszb,hI2,hbw⟩
   ·obtain rfl:k=l.length:=by omega
    have hbe:best=bestAt (costC l) l.length:=(bestFrom_end _ _ _).symm.trans hI.out
    have hbs:=hbest.out
    rw [<- hbe] at hS hbs
    obtain ⟨hb1',hb2',_⟩:=hbs
    clear hbe hI hsz hbest hg
    have hvw:=hv.below hb
    have hC1:=Hdz (cloneC_all (some ⟨blk,off,none⟩) best c (l.take best) wr.drew (by rw [<- childrenCs_take];exact Sl.take hvw.drew (by omega)) (by omega))
    have hC2:=Hdz (λ W (h:Below wr.heap.size wr.drew W)=>cloneC_all (some ⟨blk,off+best*2,none⟩) (l.length-best) (c-best) (l.drop best) W (by rw [<- childrenCs_drop];exact Sl.drop (Sl.below hvw.drew h) (by omega)) (by omega))
    have hci1:¬ (c=best):=by omega
    have hkc:best<=c:=by omega
    have hkl:best<=l.length:=by omega
    clear hZ1 hZ2
    go_wp2
    refine wRz ?_
    try simp only [lAz]
    refine tA 0 ?_;try simp only [lAz]
    refine tA 1 ?_;try simp only [lAz]
    refine tA 2 ?_;try simp only [lAz]
    refine tA 4 ?_;try simp only [lAz]
    refine tA 5 ?_;try simp only [lAz]
    refine tA 6 ?_;try simp only [lAz]
    refine rZz 3 λ K hK=>?_;go_simp
    (go_must (refine hC1.out.mono ?_);rintro e w1 ⟨v1,rfl,hown1,hb1⟩)
    go_simp
    apply hK
    clear hK K
    refine rZz 7 λ K hK=>?_;go_simp
    (go_must (refine (hC2.out _ hb1).mono ?_);rintro e w2 ⟨v2,rfl,hown2,hb2⟩)
    go_simp
    apply hK
    clear hK K
    refine rZz 8 λ K hK=>?_;go_simp;apply hK;clear hK K
    refine rZz 9 λ K hK=>?_;go_simp;apply hK;clear hK K
    refine wDz ?_
    have hz1:=hb1.size
    simp at hz1
    have hbw:Below w.heap.size w w2:=hb.drew.trans ((hb1.mono (by simp;omega)).trans (hb2.mono (by omega)))
    go_wp2
    go_ret2
    exact ⟨v1,v2,rfl,by rw [hS.out];exact own_base (own_below hown1 hb2) (by simp;omega),by rw [hS.out];exact own_base hown2 (by omega),hbw⟩
def GetCRel (b:Bytes) (w:World) (r:Nat) (g:Nat) (v:Value) (wr:World):Prop:=∃ (R:Rd) (acc:List Child),
 Rd.children ⟨b,0⟩=(acc++R.children.1,R.children.2)/\RdAt wr r R/\wr.ownsRow w.heap.size 291 2 v acc.length (childrenCs acc)/\Below w.heap.size w wr ∧
 (if R.e=0 then R.b.length+1 else 0)<=g/\(∀ x∈acc,x.short)/\acc.length+(if R.e=0 then R.b.length+1 else 0)<=b.length+1
def GetCPost (b:Bytes) (w:World) (e:Ending) (w':World):Prop:=∃ v,e=.returned (.tuple #[v,.int .i64 (getC b).2])/\w'.ownsRow w.heap.size 291 2 v (getC b).1.length (childrenCs (getC b).1)/\Below w.heap.size w w'
theorem childrenOk_short {l:List Child} (h:∀ x∈l,x.short) (hl:l.length<=400):ChildrenOk l:=by
 have:=layC_short h
 exact ⟨λ x hx=>by have:=(h x hx).1;omega,λ x hx=>(h x hx).2,by omega,by omega⟩
theorem getCRel_step {b:Bytes} {w:World} {r:Nat} {R R3:Rd} {acc:List Child} {x:Child} {v:Value} {w7:World}
  (hI:Rd.children ⟨b,0⟩=(acc++R.children.1,R.children.2)) (hS:R.children=(R.child.1 :: R.child.2.children.1,R.child.2.children.2)) (hx:R.child=(x,R3))
  (hsh:∀ y∈acc,y.short) (hs:R.child.1.short) (hle:R.child.2.b.length<=R.b.length) (hst:R.child.2.e=0->R.child.2.b.length<R.b.length)
  (hlen:acc.length+(R.b.length+1)<=b.length+1) (hR:RdAt w7 r R3)
  (hown:w7.ownsRow w.heap.size 291 2 v (acc++[x]).length (childrenCs (acc++[x]))) (hbw:Below w.heap.size w w7) :
  (if R3.e=0 then R3.b.length+1 else 0)<R.b.length+1/\GetCRel b w r (if R3.e=0 then R3.b.length+1 else 0) v w7:=by
 rw [hx] at hS hs hle hst
 dsimp only at hS hs hle hst
 have hlt:(if R3.e=0 then R3.b.length+1 else 0)<R.b.length+1:=by
  split
  ·have:=hst (by assumption);omega
  ·omega
 refine ⟨hlt,R3,acc++[x],?_,hR,hown,hbw,Nat.le_refl _,?_,?_⟩
 ·rw [hI,hS];simp
 ·intro y hy
  rcases List.mem_append.1 hy with h | h
  ·exact hsh y h
  ·rw [List.mem_singleton.1 h];exact hs
 ·rw [List.length_append,List.length_singleton];omega
theorem getC_any (b:Bytes) (w:World) (hb:b.length<=300) :
  Calls Tryz.prog 262 #[.string ⟨b.toArray⟩] w (GetCPost b w):=by
 obtain ⟨i0,hi,hz0,hz1,hz2⟩:=info_parts (show (Tryz.prog.info? 291).map (λ i=>(i.zero,i.size,i.bytes))=some (some (.agg #[.string ⟨#[]⟩,.int .i64 0]),2,24) by kernel_rfl)
 go_enter Tryz.func262,Tryz.ntmps262
 go_wp2_with (go_at_call 96;go_must (refine (newReader_any b _ (by omega)).mono ?_);rintro e w1 ⟨r,rfl,hr,hrw,hb1⟩)
 go_loopg [4] (b.length+1) (λ g v wr=>GetCRel b w r g v wr)
 case atStart=>exact ⟨⟨b,0⟩,[],rfl,hr,World.ownsRow_nil _ _ _ _,hb1,by simp,by simp,by simp⟩
 case round =>
  obtain ⟨R,acc,hI,hR,hown,hbw,hg,hsh,hlen⟩:=hrel
  have HI:=Hdz hI
  clear hI
  by_cases hc:R.e=0/\R.b≠[]
  ·have hE1:(R.end != 0)=true:=by simp [Rd.end,hc.1,hc.2]
   have hE2:(R.e==0)=true:=by simp [hc.1]
   have HS:=Hdz (Rd.children_step hc)
   have hsz:R.b.length+1<=gk/\acc.length+(R.b.length+1)<=b.length+1:=by rw [if_pos hc.1] at hg hlen;exact ⟨hg,hlen⟩
   have hshort:=Rd.child_ok R
   have hle:=Hdz (Rd.child_le R)
   have hst:=Hdz (@Rd.child_short R)
   have hun:Hid (R.child=({ key:=(R.text 40).1,page:=(R.text 40).2.var.1 },(R.text 40).2.var.2)):=by
    show _=_
    unfold Rd.child
    rfl
   clear hc hg hlen
   have hT:=λ W h=>text_any r R 40 W h
   generalize R.text 40=q1 at hun hT
   obtain ⟨key,R1⟩:=q1
   dsimp only at hun hT
   have hV1:=λ W h=>var_any r R1 W h
   generalize R1.var=q3 at hun hV1
   obtain ⟨pg,R3⟩:=q3
   dsimp only at hun hV1
   have HT:=Hdz hT
   have HV1:=Hdz hV1
   clear hT hV1
   have hx:=hun
   clear hun
   go_wp2_with (first
    | (go_at_call 100;go_must (refine (end_any _ _ _ hR).mono ?_);rintro e w2 ⟨rfl,rfl⟩)
    | (go_at_call 98;go_must (refine (err_any _ _ _ hR).mono ?_);rintro e w2 ⟨rfl,rfl⟩))
   go_must (refine (HT.out _ hR).mono ?_)
   rintro e w3 ⟨rfl,hR1,K3⟩
   have hown3:=own_keeps hown K3 (own_ne hown hR.1 (by decide))
   have hbw3:Below w.heap.size w w3:=hbw.trans (K3.below hbw.size (λ i hi h=>by omega))
   go_wp2_with (fail)
   go_must (refine (HV1.out _ hR1).mono ?_)
   rintro e w4 ⟨rfl,hR3,K4⟩
   have hown4:=own_keeps hown3 K4 (own_ne hown3 hR1.1 (by decide))
   have hbw4:Below w.heap.size w w4:=hbw3.trans (K4.below hbw3.size (λ i hi h=>by omega))
   have hl4:=hbw4.size
   go_wp2_with (at_builtin;go_must (refine wpList_append_own _ rfl _ _ 240 rfl w.heap.size 291 i0 _ 2 24 Tryz.underlying240 hi hz0 hz1 hz2 rfl (by decide) _ _ _ rfl (hown4.alloc _) ⟨w4.heap.size,0,none⟩ 1 1 (childCs { key:=key,page:=pg }) rfl rfl ?c1 ?c2 ?c3 ?c4 ?c5 ?_))
   case c1=>exact row_newI _ (childCs { key:=key,page:=pg }) _ _ rfl
   case c2=>simp [childCs,Value.oneCell',strV]
   case c3=>unfold maxLen;omega
   case c4=>omega
   case c5=>simp;omega
   intro v' w7 hown7 hgrow _
   have hown7':w7.ownsRow w.heap.size 291 2 v' (acc++[({ key:=key,page:=pg }:Child)]).length (childrenCs (acc++[{ key:=key,page:=pg }])):=by
    rw [childrenCs_snoc,List.length_append]
    exact hown7
   have K7:Keeps (λ k=>_=some k) _ w7:=(Keeps.refl (λ k=>_=some k) _).grown hgrow (λ k hk _=>hk)
   have hR7:RdAt w7 r R3:=⟨(hR3.1.alloc _).keeps K7 (λ hk=>own_ne hown4 hR3.1 (by decide) r hk rfl),hR3.2⟩
   have hbw7:Below w.heap.size w w7:=(hbw4.alloc hbw4.size _).trans (K7.below (by simp;omega) (λ i hi hk=>by have:=(hown4.lt i hk).1;omega))
   have hend:=getCRel_step HI.out HS.out hx.out hsh hshort hle.out hst.out hsz.2 hR7 hown7' hbw7
   go_wp2_with (fail)
   go_roundg (if R3.e=0 then R3.b.length+1 else 0)
   case measure=>exact Nat.lt_of_lt_of_le hend.1 hsz.1
   case rel=>exact hend.2
  ·have hI':Rd.children ⟨b,0⟩=(acc,R):=by rw [HI.out,Rd.children_end hc];simp
   clear HI
   have HI:=Hdz hI'
   clear hI'
   have hIt:ChildrenOk acc:=childrenOk_short hsh (by omega)
   have hSl:=Sl.of_own hown
   obtain ⟨A,c,hv,_⟩:=hSl
   subst hv
   have hSl:=Sl.of_own hown
   have hP:=λ W h=>putC_any A acc.length c acc W h hIt
   have hG:=Hdz (show getC b=if R.e≠0\/(putC acc).2≠0\/(putC acc).1≠b then ([],4) else (acc,0) by unfold getC;rw [HI.out])
   unfold PutCPost at hP
   generalize putC acc=q at hP hG
   obtain ⟨back,pe⟩:=q
   dsimp only at hP hG
   have HP:=Hdz hP
   clear hP HI hIt hlen hg hsh
   by_cases he:R.e=0
   ·have hE1:(R.end != 0)=false:=by have:R.b=[]:=Classical.byContradiction λ h=>hc ⟨he,h⟩;simp [Rd.end,he,this]
    have hE3:(R.e != 0)=false:=by simp [he]
    clear he hc
    go_wp2_with (go_at_call 100;go_must (refine (end_any _ _ _ hR).mono ?_);rintro e w2 ⟨rfl,rfl⟩)
    go_must (refine (HP.out _ hSl).mono ?_)
    rintro e w3 ⟨rfl,hb3⟩
    have hR3:RdAt w3 r R:=⟨hR.1.below' hb3,hR.2⟩
    have hown3:=own_keeps hown (Keeps.of_below (S:=λ _=>False) hb3) (λ _ _ h=>h)
    have hbw3:=hbw.trans ((Keeps.of_below (S:=λ _=>False) hb3).below hbw.size (λ _ _ h=>h))
    cases hp:(pe != 0)
    ·have hp0:pe=0:=by simpa using hp
     by_cases hk:back=b
     ·have hG':getC b=(acc,0):=hG.out.trans (if_neg (by simp [hp0,hk];simpa using hE3))
      have hkb:(!back==b)=false:=by simp [hk]
      clear hk hp0
      go_wp2_with (go_at_call 98;go_must (refine (err_any _ _ _ hR3).mono ?_);rintro e w4 ⟨rfl,rfl⟩)
      go_ret2
      exact ⟨_,by rw [hG']<;>rfl,by rw [hG'];exact hown3,hbw3⟩
     ·have hG':getC b=([],4):=hG.out.trans (if_pos (.inr (.inr hk)))
      have hkb:(!back==b)=true:=by simp [hk]
      clear hk hp0
      go_wp2_with (go_at_call 98;go_must (refine (err_any _ _ _ hR3).mono ?_);rintro e w4 ⟨rfl,rfl⟩)
      go_ret2
      exact ⟨_,by rw [hG']<;>rfl,by rw [hG'];exact World.ownsRow_nil _ _ _ _,hbw3⟩
    ·have hG':getC b=([],4):=hG.out.trans (if_pos (.inr (.inl (by simpa using hp))))
     go_wp2_with (go_at_call 98;go_must (refine (err_any _ _ _ hR3).mono ?_);rintro e w4 ⟨rfl,rfl⟩)
     go_ret2
     exact ⟨_,by rw [hG']<;>rfl,by rw [hG'];exact World.ownsRow_nil _ _ _ _,hbw3⟩
   ·have hE1:(R.end != 0)=true:=by simp [Rd.end,he]
    have hE2:(R.e==0)=false:=by simp [he]
    have hE3:(R.e != 0)=true:=by simp [he]
    have hG':getC b=([],4):=hG.out.trans (if_pos (.inl he))
    clear he hc
    go_wp2_with (first
     | (go_at_call 100;go_must (refine (end_any _ _ _ hR).mono ?_);rintro e w2 ⟨rfl,rfl⟩)
     | (go_at_call 98;go_must (refine (err_any _ _ _ hR).mono ?_);rintro e w2 ⟨rfl,rfl⟩))
    go_must (refine (HP.out _ hSl).mono ?_)
    rintro e w3 ⟨rfl,hb3⟩
    have hR3:RdAt w3 r R:=⟨hR.1.below' hb3,hR.2⟩
    have hbw3:=hbw.trans ((Keeps.of_below (S:=λ _=>False) hb3).below hbw.size (λ _ _ h=>h))
    go_wp2_with (go_at_call 98;go_must (refine (err_any _ _ _ hR3).mono ?_);rintro e w4 ⟨rfl,rfl⟩)
    go_ret2
    exact ⟨_,by rw [hG']<;>rfl,by rw [hG'];exact World.ownsRow_nil _ _ _ _,hbw3⟩
def MidC (k:Bytes) (l:List Child) (lo hi:Nat):Prop:=lo<=below k l/\below k l<=hi
theorem findC_any (A:Option Addr) (n c:Nat) (l:List Child) (k:Bytes) (w:World) (hv:Sl w 2 (.slice A n c) n (childrenCs l)) (hn:n<=100000) (hr:rightC l=true) :
  Calls Tryz.prog 164 #[.slice A n c,strV k] w λ e w'=>e=.returned (.int .i64 (findC k l:Nat))/\w'=w:=by
 have hl:=hv.len2
 subst hl
 have hA:=below_le k l
 have hB:=Hdz (below_right (k:=k) hr)
 go_enter Tryz.func164,Tryz.ntmps164
 go_wp2
 go_loopg [5,6,7] l.length (λ g s5 s6 s7 wr=>wr=w/\∃ at' lo hi:Nat,s5=.int .i64 at'/\s6=.int .i64 lo/\s7=.int .i64 hi/\lo<=hi/\hi<=l.length/\hi-lo<=g/\(lo=0\/lo=at'+1)/\Hid (MidC k l lo hi))
 case atStart=>exact ⟨rfl,0,0,l.length,rfl,rfl,rfl,by omega,by omega,by omega,by omega,⟨by omega,by omega⟩⟩
 case round =>
  obtain ⟨rfl,at',lo,hi,rfl,rfl,rfl,hlh,hin,hg,hat,hM⟩:=hrel
  by_cases hlt:lo<hi
  ·obtain ⟨A',c',e0,h0,h1,h2⟩:=hv
   cases e0
   obtain ⟨blk,off,rfl,hbl,hcell⟩:=h2 (by omega)
   obtain ⟨m,hm⟩:∃ m,m=lo+(hi-lo) / 2:=⟨_,rfl⟩
   have hk':m<l.length:=by omega
   obtain ⟨i0,i1⟩:=child_2 (w:=wr) λ j u hu=>child_cells hcell hk' j u hu
   have hx:l[m]? = some l[m]:=List.getElem?_eq_getElem hk'
   generalize l[m]=x at *
   clear hcell h2 h1
   have hmI:(lo:Int)+((hi:Int)-(lo:Int)) / 2=(m:Int):=by omega
   have hmle:lo<=m/\m<hi:=by omega
   have hm0:(0:Int)<=(m:Int)/\(m:Int)<(l.length:Int):=by omega
   have hd0:(0:Int)<=(hi:Int)-(lo:Int):=by omega
   obtain ⟨hm1,hm2⟩:=hm0
   obtain ⟨hml,hmr⟩:=hmle
   have HM:=Hdz hm
   clear hm
   cases hq:lessB k x.key
   ·have hM2:Hid (MidC k l (m+1) hi):=by
     refine ⟨?_,hM.out.2⟩
     refine Nat.lt_of_not_le λ h=>?_
     have:=below_ge' hr h hx
     rw [hq] at this
     cases this
    have hor:lessB x.key k=true\/(lessB x.key k=false/\(x.key==k)=true):=by
     rcases lessB_total x.key k with h | h | h
     ·exact .inl h
     ·exact .inr ⟨by rw [h];exact lessB_irrefl _,by simp [h]⟩
     ·rw [hq] at h;cases h
    have Hx:=Hdz hx
    clear hx hM hq
    rcases hor with hq1 | ⟨hq1,hq2⟩
    all_goals
     go_wp2
     go_roundg (hi-(m+1))
     case measure=>omega
     case rel=>exact ⟨rfl,m,m+1,hi,rfl,by go_num,rfl,by omega,by omega,by omega,by omega,hM2⟩
   ·have hM2:Hid (MidC k l lo m):=by
     refine ⟨hM.out.1,Nat.le_of_not_lt λ h=>?_⟩
     obtain ⟨y,h1,h2⟩:=below_lt h
     rw [hx] at h1
     cases h1
     rw [hq] at h2
     cases h2
    have hq1:=lessB_asymm hq
    have hq2:(x.key==k)=false:=by simpa using λ e=>lessB_ne hq e.symm
    clear hx hM hq
    go_wp2
    go_roundg (m-lo)
    case measure=>omega
    case rel=>exact ⟨rfl,at',lo,m,rfl,rfl,rfl,by omega,by omega,by omega,by omega,hM2⟩
  ·obtain rfl:hi=lo:=by omega
   have hat2:at'=findC k l:=by
    obtain ⟨m1,m2⟩:=hM.out
    have:=hB.out
    omega
   subst hat2
   clear hM hA
   go_wp2
   go_ret
   exact ⟨rfl,rfl⟩
theorem infoC:(Tryz.prog.info? 291).map (λ i=>(i.zero,i.size,i.bytes))=some (some (.agg #[.string ⟨#[]⟩,.int .i64 0]),2,24):=by kernel_rfl
theorem growC_any (n:Nat) (w:World) (hn:n<=1000000) :
  Calls Tryz.prog 269 #[.slice none 0 0,.int .i64 n] w λ e w'=>∃ v',e=.returned v'/\w'.ownsRow w.heap.size 291 2 v' 0 []/\Below w.heap.size w w':=by
 obtain ⟨i0,hi,hz0,hz1,hz2⟩:=info_parts infoC
 by_cases h0:n=0
 ·subst h0
  go_enter Tryz.func269,Tryz.ntmps269
  go_wp2
  go_ret
  exact ⟨_,rfl,World.ownsRow_nil _ _ _ _,Below.refl _ _⟩
 ·have hpos:(0:Int)<(n:Int):=by omega
  have hold:(Builtin.firstCells i0.size 0 (.slice none 0 0)).run Tryz.prog w.drew=.ok ([]:List Value).toArray w.drew:=rfl
  have hrz:=λ ty=>Lib.run_append_grow_zeros w 240 3 ty 291 i0 _ .i64 .i64 Tryz.underlying240 Tryz.underlying3 hi hz0 none 0 0 [] hold n (by omega) (by omega) (by omega) (by omega) (by rw [hz2];omega)
   (by rw [hz2,Nat.zero_add];exact growslice_fits (by omega) (by omega))
  simp only [Nat.zero_add] at hrz
  have hGn:n<=grownCap w n 0 291:=grownCap_ge w _ _ _
  have hGm:=grownCap_le_maxLen w n 0 291 (by unfold maxLen;omega)
  have hGm2:=hGm
  unfold maxLen at hGm2
  generalize grownCap w n 0 291=G at *
  have hsz:((([]:List Value).toArray++Builtin.zeroCells (Value.agg #[.string ⟨#[]⟩,.int .i64 0]).cells n++Builtin.zeroCells (Value.agg #[.string ⟨#[]⟩,.int .i64 0]).cells (G-n))).size=G*2:=by
   have h2:(Value.agg #[Value.string ⟨#[]⟩,Value.int .i64 0]).cells.size=2:=rfl
   simp only [Array.size_append,List.size_toArray,List.length_nil,Builtin.zeroCells,Array.size_map,Array.size_range,h2]
   omega
  generalize (([]:List Value).toArray++Builtin.zeroCells (Value.agg #[.string ⟨#[]⟩,.int .i64 0]).cells n++Builtin.zeroCells (Value.agg #[.string ⟨#[]⟩,.int .i64 0]).cells (G-n))=ROW at *
  have hnew:(w.drew.alloc (.cells ROW 291)).heap[w.heap.size]? = some (.cells ROW 291 (0,0)):=heap_alloc_new w.drew _
  have hown:(w.drew.alloc (.cells ROW 291)).ownsRow w.heap.size 291 2 (.slice (some ⟨w.heap.size,0,none⟩) 0 G) 0 []:=own_of hnew (Nat.le_refl _) (by omega) hGm hsz rfl (by intro j hj;omega)
  have hbel:Below w.heap.size w (w.drew.alloc (.cells ROW 291)):=((Below.refl _ w).drew.alloc (Nat.le_refl _) _)
  have HO:=Hdz hown
  have HZ:=Hdz hsz
  clear hown hsz hnew hz0 hz1 hz2 h0
  go_enter Tryz.func269,Tryz.ntmps269
  go_wp2_with (at_builtin;go_must (refine Lib.wpList_append_run _ rfl _ _ _ _ rfl _ _ rfl rfl _ _ (hrz _) ?_))
  go_ret
  exact ⟨_,rfl,HO.out,hbel⟩
structure Part where
 A:Option Addr
 m:Nat
 c:Nat
 L:List Child
deriving Inhabited
def Part.v (p:Part):Value:=.slice p.A p.m p.c
def Part.ok (w:World) (p:Part):Prop:=Sl w 2 (.slice p.A p.m p.c) p.m (childrenCs p.L)/\(p.A=none->p.c=0)
def sumP:List Part->Nat
 | []=>0
 | p :: l=>p.m+sumP l
def catP:List Part->List Child
 | []=>[]
 | p :: l=>p.L++catP l
theorem sumP_append:∀ a b:List Part,sumP (a++b)=sumP a+sumP b
 | [],b=>by simp [sumP]
 | p :: a,b=>by simp only [List.cons_append,sumP,sumP_append a b];omega
theorem catP_append:∀ a b:List Part,catP (a++b)=catP a++catP b
 | [],b=>rfl
 | p :: a,b=>by simp only [List.cons_append,catP,catP_append a b,List.append_assoc]
theorem sumP_take {l:List Part} {k:Nat} (h:k<l.length):sumP (l.take (k+1))=sumP (l.take k)+l[k].m:=by
 rw [List.take_succ_eq_append_getElem h,sumP_append];rfl
theorem catP_take {l:List Part} {k:Nat} (h:k<l.length):catP (l.take (k+1))=catP (l.take k)++l[k].L:=by
 rw [List.take_succ_eq_append_getElem h,catP_append];simp [catP]
theorem sumP_le (l:List Part) (k:Nat):sumP (l.take k)<=sumP l:=by
 have:sumP l=sumP (l.take k)+sumP (l.drop k):=by rw [<- sumP_append,List.take_append_drop]
 omega
theorem concatC_any (g c:Nat) (ps:List Part) (w:World) (hg:g<w.heap.size) (hc:ps.length<=c) (hcell:∀ k (h:k<ps.length),w.cell? ⟨g,k,none⟩=some ps[k].v) (hp:∀ p∈ps,p.ok w) (hs:sumP ps<=100000) (hl:ps.length<=1000) :
  Calls Tryz.prog 241 #[.slice (some ⟨g,0,none⟩) ps.length c] w λ e w' =>
   ∃ v',e=.returned v'/\w'.ownsRow w.heap.size 291 2 v' (sumP ps) (childrenCs (catP ps))/\Below w.heap.size w w':=by
 obtain ⟨i0,hi,hz0,hz1,hz2⟩:=info_parts infoC
 have HP:=Hdz hp
 have HC:=Hdz hcell
 clear hp hcell
 go_enter Tryz.func241,Tryz.ntmps241
 go_wp2
 go_loopg [3,11] ps.length (λ gk s3 s11 wr=>wr=w/\∃ k:Nat,k<=ps.length/\ps.length-k<=gk/\s11=.int .i64 k/\s3=.int .i64 (sumP (ps.take k)))
 case atStart=>exact ⟨rfl,0,by omega,by omega,rfl,rfl⟩
 case round =>
  obtain ⟨rfl,k,hk,hgk,rfl,rfl⟩:=hrel
  have hsk:=sumP_le ps k
  by_cases hlt:k<ps.length
  ·have hc1:=HC.out k hlt
   have hst:=sumP_take hlt
   have hsk1:=sumP_le ps (k+1)
   unfold Part.v at hc1
   have Hst:Hid (sumP (ps.take (k+1))=sumP (ps.take k)+ps[k].m):=hst
   rw [hst] at hsk1
   clear hst
   generalize ps[k]=p at *
   generalize sumP (ps.take k)=skx at *
   go_wp2
   go_roundg (ps.length-(k+1))
   case measure=>omega
   case rel=>exact ⟨rfl,k+1,by omega,by omega,by go_num,by rw [Hst.out];go_num⟩
  ·obtain rfl:k=ps.length:=by omega
   have ht:sumP (ps.take ps.length)=sumP ps:=by rw [List.take_length]
   rw [ht]
   clear ht hsk
   go_wp2_with (fail)
   go_must (refine (growC_any _ _ (by omega)).mono ?_)
   rintro e w1 ⟨v0,rfl,hown0,hb0⟩
   go_wp2_with (fail)
   obtain ⟨wo,rfl⟩:∃ wo:World,wo=wr:=⟨_,rfl⟩
   have hz1':=hb0.size
   go_loopg [6,27] ps.length (λ gk s6 s27 wr=>∃ k:Nat,k<=ps.length/\ps.length-k<=gk/\s27=.int .i64 k/\wr.ownsRow wo.heap.size 291 2 s6 (sumP (ps.take k)) (childrenCs (catP (ps.take k)))/\Below wo.heap.size wo wr)
   case atStart=>exact ⟨0,by omega,by omega,rfl,hown0,hb0⟩
   case round =>
    obtain ⟨k,hk2,hgk2,rfl,hown,hb⟩:=hrel
    have hz2':=hb.size
    have hsk:=sumP_le ps k
    by_cases hlt2:k<ps.length
    ·have hc1:=HC.out k hlt2
     have hc2:wr.cell? ⟨g,k,none⟩=_:=(hb.cell (p:=⟨g,k,none⟩) hg).trans hc1
     unfold Part.v at hc2
     have hok:=HP.out ps[k] (List.getElem_mem hlt2)
     have hok1:=hok.1.below hb
     have hok2:=Hdz hok.2
     have hst:=sumP_take hlt2
     have hsk1:=sumP_le ps (k+1)
     have Hst:Hid (sumP (ps.take (k+1))=sumP (ps.take k)+ps[k].m):=hst
     have Hct:Hid (catP (ps.take (k+1))=catP (ps.take k)++ps[k].L):=catP_take hlt2
     rw [hst] at hsk1
     clear hst hok hc1
     generalize ps[k]=p at *
     generalize sumP (ps.take k)=skx at *
     generalize catP (ps.take k)=ck at *
     have hm1:skx+p.m<=maxLen:=by unfold maxLen;omega
     go_wp2_with (at_builtin;go_must (refine wpList_append_sl rfl _ _ 240 rfl wo.heap.size 291 i0 _ 2 24 Tryz.underlying240 hi hz0 hz1 hz2 rfl (by decide) _ _ _ rfl hown p.A p.m p.c (childrenCs p.L) rfl hok1 hok2.out (childrenCs_one _) hm1 ?b1 hz2' ?_))
     case b1=>omega
     intro v' w3 hown3 hgrow
     have hbw3:Below wo.heap.size wo w3:=hb.grown hgrow hz2' (λ k hk=>(hown.lt k hk).1)
     go_wp2_with (fail)
     go_roundg (ps.length-(k+1))
     case measure=>omega
     case rel=>exact ⟨k+1,by omega,by omega,by go_num,by rw [Hst.out,Hct.out,childrenCs_append];exact hown3,hbw3⟩
    ·obtain rfl:k=ps.length:=by omega
     rw [List.take_length] at hown
     go_wp2_with (fail)
     go_ret
     exact ⟨_,rfl,hown,hb⟩
theorem childrenCs_head (c:Child) (L:List Child) (k:Bytes):(childrenCs (c :: L)).set 0 (strV k)=childrenCs (headKey k (c :: L)):=by
 simp [childrenCs,headKey,childCs]
def OwnsC (w:World) (base:Nat) (v:Value) (L:List Child):Prop:=w.ownsRow base 291 2 v L.length (childrenCs L)
def ReplPost (L:List Child) (w:World) (e:Ending) (w':World):Prop:=∃ v',e=.returned v'/\OwnsC w' w.heap.size v' L/\Below w.heap.size w w'
theorem replC_any (A B:Option Addr) (n c m d i:Nat) (l x:List Child) (w:World) (hv:Sl w 2 (.slice A n c) n (childrenCs l)) (hx:Sl w 2 (.slice B m d) m (childrenCs x)) (hB:B=none->d=0) (hn:n<=10000) (hm:m<=10000) (hi:i<n) :
  Calls Tryz.prog 204 #[.slice A n c,.int .i64 i,.slice B m d] w (ReplPost (headKey [] (l.take i++x++l.drop (i+1))) w):=by
 have hl:=hv.len2
 have hlx:=hx.len2
 subst hl
 obtain ⟨A',c',e0,h0,h1,hA⟩:=id hv
 cases e0
 obtain ⟨blk,off,rfl,hbl,hcell⟩:=hA (by omega)
 clear hA h1 hcell
 obtain ⟨A3,hA3,hs3⟩:∃ A3,(if c=i+1 then some ⟨blk,off,none⟩ else some (⟨blk,off+(i+1)*2,none⟩:Addr))=some A3/\Sl w 2 (.slice (some A3) (l.length-(i+1)) (c-(i+1))) (l.length-(i+1)) (childrenCs (l.drop (i+1))):=by
  by_cases hc:c=i+1
  ·refine ⟨_,if_pos hc,?_⟩
   have:l.length-(i+1)=0:=by omega
   rw [this,List.drop_of_length_le (by omega)]
   exact Sl.nil ..
  ·refine ⟨_,if_neg hc,?_⟩
   rw [<- childrenCs_drop]
   exact Sl.drop hv (by omega)
 have hs1:Sl w 2 (.slice (some ⟨blk,off,none⟩) i c) i (childrenCs (l.take i)):=by
  rw [<- childrenCs_take]
  exact Sl.take hv (by omega)
 have hw1:IntKind.i64.wrap ((i:Int)+1)=(i:Int)+1:=IntWalk.i64_in _ (by omega)
 have hb1:(0:Int)<=(i:Int)+1:=by omega
 have htn:((i:Int)+1).toNat=i+1:=by omega
 have hic:i<=c:=by omega
 have hil:i+1<=l.length:=by omega
 have hil':(i:Int)+1<=(l.length:Int):=by omega
 have hlt:(i:Int)<(l.length:Int):=by omega
 have hnn:¬ (i:Int)<0:=by omega
 have hW:∀ W,Below w.heap.size w W->∀ g,W.heap[g]? = some (.cells #[.slice (some ⟨blk,off,none⟩) i c,.slice B m d,.slice (some A3) (l.length-(i+1)) (c-(i+1))] 240 (0,0)) →
   Calls Tryz.prog 241 #[.slice (some ⟨g,0,none⟩) 3 3] W λ e w' =>
    ∃ v',e=.returned v'/\OwnsC w' W.heap.size v' (l.take i++x++l.drop (i+1))/\Below W.heap.size W w':=by
  intro W hbW g hg
  have hgl:g<W.heap.size:=(Array.getElem?_eq_some_iff.1 hg).1
  have hgc:=λ k=>cell_of_row W g k _ _ (0,0) hg
  have:=concatC_any g 3 [⟨some ⟨blk,off,none⟩,i,c,l.take i⟩,⟨B,m,d,x⟩,⟨some A3,l.length-(i+1),c-(i+1),l.drop (i+1)⟩] W hgl (Nat.le_refl _) ?_ ?_ (by simp only [sumP];omega) (by simp)
  ·refine this.mono ?_
   rintro e w' ⟨v',h1,h2,h3⟩
   refine ⟨v',h1,?_,h3⟩
   unfold OwnsC
   have e1:(l.take i++x++l.drop (i+1)).length=sumP [⟨some ⟨blk,off,none⟩,i,c,l.take i⟩,⟨B,m,d,x⟩,⟨some A3,l.length-(i+1),c-(i+1),l.drop (i+1)⟩]:=by
    simp only [sumP,List.length_append,List.length_take,List.length_drop];omega
   have e2:catP [⟨some ⟨blk,off,none⟩,i,c,l.take i⟩,⟨B,m,d,x⟩,⟨some A3,l.length-(i+1),c-(i+1),l.drop (i+1)⟩]=l.take i++x++l.drop (i+1):=by
    simp [catP]
   rw [e1,<- e2]
   exact h2
  ·intro k hk
   rw [hgc]
   match k with
   | 0=>rfl
   | 1=>rfl
   | 2=>rfl
   | k+3=>exact absurd hk (by simp)
  ·intro p hp
   simp only [List.mem_cons,List.not_mem_nil,or_false] at hp
   have hK:Keeps (λ _=>False) w W:=Keeps.of_below hbW
   rcases hp with rfl | rfl | rfl
   ·exact ⟨hs1.below hbW,λ h=>by cases h⟩
   ·exact ⟨hx.below hbW,hB⟩
   ·exact ⟨hs3.below hbW,λ h=>by cases h⟩
 have HW:=Hdz hW
 obtain ⟨L,hL⟩:∃ L,L=l.take i++x++l.drop (i+1):=⟨_,rfl⟩
 rw [<- hL] at HW ⊢
 clear hW hL hs1 hs3 hv hx hlx
 go_enter Tryz.func204,Tryz.ntmps204
 go_wp2
 refine wRz ?_
 try simp only [lAz]
 refine tA 0 ?_;try simp only [lAz]
 refine tA 1 ?_;try simp only [lAz]
 refine tA 2 ?_;try simp only [lAz]
 refine tA 3 ?_;try simp only [lAz]
 refine tA 4 ?_;try simp only [lAz]
 refine tA 5 ?_;try simp only [lAz]
 refine tA 6 ?_;try simp only [lAz]
 refine tA 7 ?_;try simp only [lAz]
 refine rZz 8 λ K hK=>?_;go_simp;apply hK;clear hK K
 refine rZz 9 λ K hK=>?_;go_simp
 (go_must (refine (HW.out _ ((Below.refl _ w).alloc (Nat.le_refl _) _).drew _ (heap_alloc_new w _)).mono ?_);rintro e w1 ⟨v1,rfl,hown,hb1⟩)
 go_simp
 apply hK
 clear hK K
 refine rZz 10 λ K hK=>?_;go_simp;apply hK;clear hK K
 refine wDz ?_
 have hz1:=hb1.size
 simp at hz1
 have hbw:Below w.heap.size w w1:=((Below.refl _ w).alloc (Nat.le_refl _) _).drew.trans (hb1.mono (by simp))
 unfold OwnsC at hown
 cases L with
 | nil =>
  obtain ⟨A2,c2,e2,_⟩:=Sl.of_own hown
  subst e2
  go_wp2
  go_ret
  exact ⟨_,rfl,own_base hown (by simp),hbw⟩
 | cons x0 L =>
  rcases hown.2 with ⟨_,h0⟩ | ⟨g,cap,cur,rfl,hbb,hheap,hnc,hcm,hcs,hcx⟩
  ·cases h0
  obtain ⟨u0,d0⟩:∃ u,w1.cell? ⟨g,0,none⟩=some u:=⟨_,by rw [cell_of_row w1 g _ cur _ (0,0) hheap];exact Array.getElem?_eq_getElem (by simp at hnc;omega)⟩
  have f00:=hown.frozenAt 0
  obtain ⟨o0,g0⟩:=hown.stored 0 (strV [])
  rw [childrenCs_head] at o0
  have hgb:w.heap.size<=g:=by simp at hbb;omega
  have hbw2:Below w.heap.size w (w1.setCell ⟨g,0,none⟩ (strV [])):=hbw.setCell (p:=⟨g,0,none⟩) hgb _
  have O0:=Hdz o0
  clear o0 g0 hcx hown
  go_wp2
  go_ret
  exact ⟨_,rfl,own_base (by simpa [headKey] using O0.out) (by simp),hbw2⟩
end Go.Ev
