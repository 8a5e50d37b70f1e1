/-
  Texts of this claim.
-/
import Derived.Test.YtmfoiaaehkandaaGreatDoorMOGvCurs
import Derived.Test.YtmfoiaaehkandaaGreatDoorMOGwLoad
import Derived.Carry
import Derived.Lib.SortBridge
set_option linter.unusedVariables false
set_option linter.unusedSimpArgs false
set_option maxHeartbeats 4000000
set_option maxRecDepth 100000
namespace Go.Ev
open Go.Proofs Go.RowKit
theorem good_any (s:Bytes) (w:World) (hs:s.length<=9223372036854775807):Calls Tryz.prog 112 #[strV s] w λ e w'=>e=.returned (.bool (decide (1<=s.length) && decide (s.length<=40)))/\w=w':=by
 obtain ⟨n,hn⟩:=nmz (s.length)
 rw [hn]
 by_cases h1:1<=n
 ·have h1':(1:Int)<=(n:Int):=by omega
  by_cases h40:n<=40
  ·have h40':(n:Int)<=40:=by omega
   go_enter Tryz.func112,Tryz.ntmps112
   go_wp2
   go_ret
   exact ⟨by simp [h1,h40],rfl⟩
  ·have h40':¬ (n:Int)<=40:=by omega
   go_enter Tryz.func112,Tryz.ntmps112
   go_wp2
   go_ret
   exact ⟨by simp [h1,h40],rfl⟩
 ·have h1':¬ (1:Int)<=(n:Int):=by omega
  go_enter Tryz.func112,Tryz.ntmps112
  go_wp2
  go_ret
  exact ⟨by simp [h1],rfl⟩
theorem drop_cons_of {a:Bytes} {i:Nat} (h:i<a.length):a.drop i=a[i] :: a.drop (i+1):=List.drop_eq_getElem_cons h
theorem less_any (a b:Bytes) (w:World) (ha:a.length<=100000) (hb:b.length<=100000):Calls Tryz.prog 156 #[strV a,strV b] w λ e w'=>e=.returned (.bool (lessB a b))/\Below w.heap.size w w':=by
 obtain ⟨na,hna⟩:∃ n,a.length=n:=⟨_,rfl⟩
 obtain ⟨nb,hnb⟩:∃ n,b.length=n:=⟨_,rfl⟩
 go_enter Tryz.func156,Tryz.ntmps156
 go_wp2
 go_loopg [5] na (λ gk s5 wr=>∃ i:Nat,s5=.int .i64 (i:Int)/\i+gk=na/\i<=nb/\Hid (lessB a b=lessB (a.drop i) (b.drop i))/\Below w.heap.size w wr)
 case atStart=>exact ⟨0,rfl,by omega,by omega,rfl,Below.refl _ _⟩
 case round =>
  obtain ⟨i,rfl,hi,hib,hl,hbw⟩:=hrel
  by_cases h1:i<na
  ·by_cases h2:i<nb
   ·have h1':(i:Int)<(na:Int):=by omega
    have h2':(i:Int)<(nb:Int):=by omega
    have ea:=drop_cons_of (a:=a) (i:=i) (by omega)
    have eb:=drop_cons_of (a:=b) (i:=i) (by omega)
    have h0:(0:Int)<=(i:Int):=by omega
    have hw:IntKind.i64.wrap ((i:Int)+1)=(i:Int)+1:=IntWalk.i64_in _ (by omega)
    obtain ⟨x,hx⟩:=nmz (a[i]'(by omega))
    obtain ⟨y,hy⟩:=nmz (b[i]'(by omega))
    rw [hx] at ea
    rw [hy] at eb
    have gx:({ data:=List.toArray a }:ByteArray)[i]'(by show i<a.length;omega)=x:=hx
    have gy:({ data:=List.toArray b }:ByteArray)[i]'(by show i<b.length;omega)=y:=hy
    have HL:=hl.out
    rw [ea,eb] at HL
    clear ea eb hl hx hy ha hb
    by_cases hxy:x=y
    ·subst hxy
     have hc:lessB (x :: a.drop (i+1)) (x :: b.drop (i+1))=lessB (a.drop (i+1)) (b.drop (i+1)):=by simp [lessB,Op.bytesLess]
     rw [hc] at HL
     have HL:=Hdz HL
     clear hc
     go_wp2_with (fail)
     refine wRz ?_
     try simp only [lAz]
     refine tA 0 ?_;try simp only [lAz]
     refine tA 1 ?_;try simp only [lAz]
     refine tA 2 ?_;try simp only [lAz]
     refine tA 3 ?_;try simp only [lAz]
     refine tA 4 ?_;try simp only [lAz]
     refine tA 5 ?_;try simp only [lAz]
     refine tA 6 ?_;try simp only [lAz]
     refine wDz ?_
     go_wp2_with (fail)
     go_roundg (gk-1)
     case measure=>omega
     case rel=>exact ⟨i+1,by simp,by omega,by omega,HL.out,hbw.drew⟩
    ·have hb1:(((x.toNat:Nat):Int) != ((y.toNat:Nat):Int))=true:=by
      simp only [bne_iff_ne,ne_eq]
      intro e
      exact hxy (UInt8.toNat_inj.1 (by omega))
     have HL:=Hdz HL
     have HXY:=Hdz hxy
     clear hxy
     go_wp2_with (fail)
     refine wRz ?_
     try simp only [lAz]
     refine tA 0 ?_;try simp only [lAz]
     refine tA 1 ?_;try simp only [lAz]
     refine tA 2 ?_;try simp only [lAz]
     refine tA 3 ?_;try simp only [lAz]
     refine tA 4 ?_;try simp only [lAz]
     refine tA 5 ?_;try simp only [lAz]
     refine tA 6 ?_;try simp only [lAz]
     refine wDz ?_
     go_wp2_with (fail)
     refine wRz ?_
     try simp only [lAz]
     refine tA 0 ?_;try simp only [lAz]
     refine tA 1 ?_;try simp only [lAz]
     refine tA 2 ?_;try simp only [lAz]
     refine tA 3 ?_;try simp only [lAz]
     refine tA 4 ?_;try simp only [lAz]
     refine tA 5 ?_;try simp only [lAz]
     refine tA 6 ?_;try simp only [lAz]
     refine rZz 7 λ K hK=>?_;go_simp;apply hK;clear hK K
     refine wDz ?_
     go_wp2_with (fail)
     go_ret
     refine ⟨?_,hbw.drew.drew⟩
     try rw [HL.out]
     simp [lessB,Op.bytesLess,HXY.out,UInt8.lt_iff_toNat_lt]
   ·have h2':¬ (i:Int)<(nb:Int):=by omega
    have h1':(i:Int)<(na:Int):=by omega
    have HL:=hl.out
    have ed:b.drop i=[]:=List.drop_of_length_le (by omega)
    have ec:=drop_cons_of (a:=a) (i:=i) (by omega)
    rw [ed,ec] at HL
    have HL:=Hdz HL
    clear ed ec hl ha hb
    go_wp2_with (fail)
    go_ret
    refine ⟨?_,hbw⟩
    try rw [HL.out]
    simp [lessB,Op.bytesLess]
    omega
  ·have h1':¬ (i:Int)<(na:Int):=by omega
   have HL:=hl.out
   have ed:a.drop i=[]:=List.drop_of_length_le (by omega)
   rw [ed] at HL
   by_cases hnn:na<nb
   ·have hnn':(na:Int)<(nb:Int):=by omega
    have e1:b.drop i≠[]:=by intro e;rw [List.drop_eq_nil_iff] at e;omega
    have HL:=Hdz HL
    have HE:=Hdz e1
    clear ed hl ha hb e1
    go_wp2_with (fail)
    go_ret
    refine ⟨?_,hbw⟩
    try rw [HL.out]
    cases hd:b.drop i with
    | nil=>exact absurd hd HE.out
    | cons u l=>simp [lessB,Op.bytesLess]
   ·have hnn':¬ (na:Int)<(nb:Int):=by omega
    have e1:b.drop i=[]:=List.drop_of_length_le (by omega)
    rw [e1] at HL
    have HL:=Hdz HL
    clear ed hl ha hb e1
    go_wp2_with (fail)
    go_ret
    refine ⟨?_,hbw⟩
    try rw [HL.out]
    simp [lessB,Op.bytesLess]
-- pairs in a row
def pairCs (q:Pair):List Value:=[strV q.1,strV q.2]
def pairsCs:List Pair->List Value
 | []=>[]
 | q :: l=>pairCs q++pairsCs l
theorem pairsCs_len:∀ l:List Pair,(pairsCs l).length=l.length*2
 | []=>rfl
 | q :: l=>by simp [pairsCs,pairCs,pairsCs_len l];omega
theorem pairsCs_app:∀ a b:List Pair,pairsCs (a++b)=pairsCs a++pairsCs b
 | [],_=>rfl
 | q :: a,b=>by simp [pairsCs,pairsCs_app a b]
theorem pairsCs_take:∀ (l:List Pair) (k:Nat),(pairsCs l).take (k*2)=pairsCs (l.take k)
 | [],k=>by simp [pairsCs]
 | q :: l,0=>rfl
 | q :: l,k+1=>by
  rw [show (k+1)*2=k*2+1+1 by omega]
  simp [pairsCs,pairCs,pairsCs_take l k]
theorem pairsCs_drop:∀ (l:List Pair) (k:Nat),(pairsCs l).drop (k*2)=pairsCs (l.drop k)
 | [],k=>by simp [pairsCs]
 | q :: l,0=>rfl
 | q :: l,k+1=>by
  rw [show (k+1)*2=k*2+1+1 by omega]
  simp [pairsCs,pairCs,pairsCs_drop l k]
theorem pairsCs_one:∀ l:List Pair,∀ u∈pairsCs l,u.oneCell'=true
 | [],u,h=>by simp [pairsCs] at h
 | q :: l,u,h=>by
  simp only [pairsCs,pairCs,List.cons_append,List.nil_append,List.mem_cons] at h
  rcases h with rfl | rfl | h
  ·rfl
  ·rfl
  ·exact pairsCs_one l u h
theorem pairsCs_at:∀ (l:List Pair) (k:Nat) (hk:k<l.length),(pairsCs l)[k*2]? = some (strV l[k].1)/\(pairsCs l)[k*2+1]? = some (strV l[k].2)
 | q :: l,0,_=>⟨rfl,rfl⟩
 | q :: l,k+1,h=>by
  have ih:=pairsCs_at l k (by simpa using h)
  rw [show (k+1)*2=k*2+2 by omega]
  simpa [pairsCs,pairCs] using ih
def aheadP (k:Bytes):List Pair->Nat
 | []=>0
 | q :: l=>if lessB q.1 k then aheadP k l+1 else 0
def isAtP (k:Bytes):List Pair->Bool
 | []=>false
 | q :: l=>if lessB q.1 k then isAtP k l else q.1==k
theorem aheadP_le (k:Bytes):∀ l:List Pair,aheadP k l<=l.length
 | []=>Nat.le_refl _
 | q :: l=>by
  have:=aheadP_le k l
  simp only [aheadP,List.length_cons]
  split<;>omega
theorem aheadP_drop (k:Bytes) {l:List Pair} {i:Nat} (h:i<l.length):aheadP k (l.drop i)=if lessB l[i].1 k then aheadP k (l.drop (i+1))+1 else 0:=by
 rw [List.drop_eq_getElem_cons h]
 rfl
theorem isAtP_eq (k:Bytes):∀ l:List Pair,isAtP k l=match l[aheadP k l]? with | some q=>q.1==k | none=>false
 | []=>rfl
 | q :: l=>by
  have ih:=isAtP_eq k l
  simp only [isAtP,aheadP]
  split
  ·rw [ih];simp
  ·simp
theorem insP_at (k v:Bytes):∀ l:List Pair,insP k v l=l.take (aheadP k l)++(k,v) :: l.drop (if isAtP k l then aheadP k l+1 else aheadP k l)
 | []=>rfl
 | q :: l=>by
  have ih:=insP_at k v l
  simp only [insP,aheadP,isAtP]
  by_cases h1:lessB q.1 k=true
  ·simp only [h1,if_true]
   rw [ih]
   split<;>simp
  ·by_cases h2:lessB k q.1=true
   ·have:(q.1==k)=false:=by
     simp only [beq_eq_false_iff_ne,ne_eq]
     exact (lessB_ne h2).symm
    simp [h1,h2,this]
   ·have:(q.1==k)=true:=by
     simp only [beq_iff_eq]
     rcases lessB_total q.1 k with h | h | h
     ·exact absurd h h1
     ·exact h
     ·exact absurd h h2
    simp [h1,h2,this]
def FindP (key:Bytes) (t:List Pair) (w:World) (e:Ending) (w':World):Prop:=
 e=.returned (.tuple #[.int .i64 (aheadP key t:Int),.bool (isAtP key t)])/\Below w.heap.size w w'
theorem findP_any (A:Option Addr) (n c:Nat) (t:List Pair) (key:Bytes) (w:World) (hv:Sl w 2 (.slice A n c) n (pairsCs t)) (hn:n<=100000) (hk:key.length<=100000) (hks:∀ q∈t,q.1.length<=100000) :
  Calls Tryz.prog 113 #[.slice A n c,strV key] w (FindP key t w):=by
 have hl:t.length=n:=by
  obtain ⟨_,_,_,_,h1,_⟩:=hv
  rw [pairsCs_len] at h1
  omega
 subst hl
 go_enter Tryz.func113,Tryz.ntmps113
 go_wp2
 go_loopg [6] t.length (λ gk s6 wr=>∃ i:Nat,s6=.int .i64 (i:Int)/\i+gk=t.length/\Hid (aheadP key t=i+aheadP key (t.drop i))/\Below w.heap.size w wr)
 case atStart=>exact ⟨0,rfl,by omega,by show _=0+_;rw [Nat.zero_add];rfl,Below.refl _ _⟩
 case round =>
  obtain ⟨i,rfl,hi,hl,hbw⟩:=hrel
  by_cases h1:i<t.length
  ·have h1':(i:Int)<(t.length:Int):=by omega
   have h0:(0:Int)<=(i:Int):=by omega
   have hw:IntKind.i64.wrap ((i:Int)+1)=(i:Int)+1:=IntWalk.i64_in _ (by omega)
   obtain ⟨A',c',e0,_,_,hcl⟩:=hv.below hbw
   cases e0
   obtain ⟨blk,off,rfl,hbl,hcell⟩:=hcl (by omega)
   obtain ⟨p1,p2⟩:=pairsCs_at t i h1
   have x1:=hcell _ _ p1
   have x2:=hcell _ _ p2
   have HL:=Hdz (less_any t[i].1 key wr (hks _ (List.getElem_mem ..)) hk)
   have hD:=hl.out
   rw [aheadP_drop key h1] at hD
   have hQ:=Hdz (isAtP_eq key t)
   cases hc:lessB t[i].1 key with
   | true =>
    rw [hc] at HL hD
    simp only [if_true] at hD
    have hD:=Hdz hD
    clear hv hks hcell hl p1 p2 hcl
    go_wp2_with (fail)
    go_must (refine HL.out.mono ?_)
    rintro e w1 ⟨rfl,hb1⟩
    go_wp2_with (fail)
    go_roundg (gk-1)
    case measure=>omega
    case rel=>exact ⟨i+1,by simp,by omega,by show _=_;rw [hD.out];omega,hbw.trans (hb1.mono hbw.size)⟩
   | false =>
    rw [hc] at HL hD
    simp only [Bool.false_eq_true,if_false] at hD
    have hat:isAtP key t=(t[i].1==key):=by
     rw [hQ.out,hD,Nat.add_zero,List.getElem?_eq_getElem h1]
    have x1':∀ W,Below wr.heap.size wr W->W.cell? ⟨blk,off+i*2,none⟩=some (strV t[i].1):=λ W hW=>(hW.cell (p:=⟨blk,off+i*2,none⟩) hbl).trans x1
    have hD:=Hdz hD
    have HAT:=Hdz hat
    have X1:=Hdz x1'
    clear hv hks hcell hl p1 p2 hcl hat x1'
    go_wp2_with (fail)
    go_must (refine HL.out.mono ?_)
    rintro e w1 ⟨rfl,hb1⟩
    have y1:=X1.out w1 hb1
    go_wp2_with (fail)
    refine wRz ?_
    try simp only [lAz]
    refine tA 0 ?_;try simp only [lAz]
    refine tA 1 ?_;try simp only [lAz]
    refine tA 2 ?_;try simp only [lAz]
    refine tA 3 ?_;try simp only [lAz]
    refine tA 4 ?_;try simp only [lAz]
    refine tA 5 ?_;try simp only [lAz]
    refine tA 6 ?_;try simp only [lAz]
    refine tA 7 ?_;try simp only [lAz]
    refine tA 8 ?_;try simp only [lAz]
    refine tA 9 ?_;try simp only [lAz]
    refine rA 10 (v:=?_) (hy:=?hy) ?_;case hy=>(intro w hE;have q0:=hE.cell y1;go_simp;try with_reducible rfl)
    try simp only [lAz]
    refine tA 11 ?_;try simp only [lAz]
    refine tA 12 ?_;try simp only [lAz]
    refine tA 13 ?_;try simp only [lAz]
    refine rZz 14 λ K hK=>?_;go_simp;apply hK;clear hK K
    refine rZz 15 λ K hK=>?_;go_simp;apply hK;clear hK K
    refine wDz ?_
    go_wp2_with (fail)
    refine bodyPost_ret (v:=.tuple #[.int .i64 (i:Int),.bool (t[i].1==key)]) (by simp [results,Tryz.results113,go_sem]) rfl ?_
    exact ⟨by rw [hD.out,HAT.out];simp,(hbw.trans (hb1.mono hbw.size)).drew⟩
  ·have h1':¬ (i:Int)<(t.length:Int):=by omega
   have hii:i=t.length:=by omega
   have hD:=hl.out
   rw [hii,List.drop_length] at hD
   simp only [aheadP,Nat.add_zero] at hD
   have hat:isAtP key t=false:=by rw [isAtP_eq,hD];simp
   have hD:=Hdz hD
   have HAT:=Hdz hat
   have HII:=Hdz hii
   clear hv hks hl hat hii
   go_wp2_with (fail)
   refine wRz ?_
   try simp only [lAz]
   refine tA 0 ?_;try simp only [lAz]
   refine tA 1 ?_;try simp only [lAz]
   refine tA 2 ?_;try simp only [lAz]
   refine tA 3 ?_;try simp only [lAz]
   refine tA 4 ?_;try simp only [lAz]
   refine tA 5 ?_;try simp only [lAz]
   refine sA 6 ?_;try simp only [lAz]
   refine sA 7 ?_;try simp only [lAz]
   refine sA 8 ?_;try simp only [lAz]
   refine sA 9 ?_;try simp only [lAz]
   refine sA 10 ?_;try simp only [lAz]
   refine sA 11 ?_;try simp only [lAz]
   refine sA 12 ?_;try simp only [lAz]
   refine tA 13 ?_;try simp only [lAz]
   refine rZz 14 λ K hK=>?_;go_simp;apply hK;clear hK K
   refine rZz 15 λ K hK=>?_;go_simp;apply hK;clear hK K
   refine wDz ?_
   go_wp2_with (fail)
   refine bodyPost_ret (v:=.tuple #[.int .i64 (i:Int),.bool false]) (by simp [results,Tryz.results113,go_sem]) rfl ?_
   exact ⟨by rw [hD.out,HAT.out,HII.out],hbw.drew⟩
theorem infoPair:(Tryz.prog.info? 139).map (λ i=>(i.zero,i.size,i.bytes))=some (some (.agg #[strV [],strV []]),2,32):=by kernel_rfl
theorem aheadAt_lt {k:Bytes} {l:List Pair} (h:isAtP k l=true):aheadP k l<l.length:=by
 rw [isAtP_eq] at h
 cases hq:l[aheadP k l]? with
 | none=>rw [hq] at h;cases h
 | some q=>exact (List.getElem?_eq_some_iff.1 hq).1
def RefPutP (key v:Bytes) (t:List Pair) (w:World) (e:Ending) (w':World):Prop:=
 ∃ u,e=.returned (.tuple #[u,.int .i64 0])/\w'.ownsRow w.heap.size 139 2 u (insP key v t).length (pairsCs (insP key v t))/\Below w.heap.size w w'
theorem refPut_bad (A:Option Addr) (n c:Nat) (key v:Bytes) (w:World) (hk:key.length<=9223372036854775807) (hv:v.length<=9223372036854775807) (hbad:¬ (1<=key.length/\key.length<=40/\v.length<=2000)) :
  Calls Tryz.prog 73 #[.slice A n c,strV key,strV v] w λ e w'=>e=.returned (.tuple #[.slice A n c,.int .i64 1])/\w=w':=by
 have hG:=good_any key w hk
 obtain ⟨m,hm⟩:=nmz (v.length)
 rw [hm] at hbad hv
 by_cases hg:1<=key.length/\key.length<=40
 ·have e1:decide (1<=key.length)=true:=by simpa using hg.1
  have e2:decide (key.length<=40)=true:=by simpa using hg.2
  rw [e1,e2] at hG
  have h2:(2000:Int)<(m:Int):=by omega
  have HG:=Hdz hG
  clear hG e1 e2
  go_enter Tryz.func73,Tryz.ntmps73
  go_wp2_with (fail)
  go_must (refine HG.out.mono ?_)
  rintro e w1 ⟨rfl,rfl⟩
  go_wp2_with (fail)
  refine bodyPost_ret (v:=.tuple #[.slice A n c,.int .i64 1]) (by simp [results,Tryz.results73,go_sem]) rfl ?_
  exact ⟨rfl,rfl⟩
 ·have e1:(decide (1<=key.length) && decide (key.length<=40))=false:=by
   rw [Bool.and_eq_false_iff]
   simp only [decide_eq_false_iff_not]
   omega
  rw [e1] at hG
  have HG:=Hdz hG
  clear hG e1
  go_enter Tryz.func73,Tryz.ntmps73
  go_wp2_with (fail)
  go_must (refine HG.out.mono ?_)
  rintro e w1 ⟨rfl,rfl⟩
  go_wp2_with (fail)
  refine bodyPost_ret (v:=.tuple #[.slice A n c,.int .i64 1]) (by simp [results,Tryz.results73,go_sem]) rfl ?_
  exact ⟨rfl,rfl⟩
theorem row_pair (w:World) (q:Pair) (T:TypeId) (B:Nat) (hB:B=w.heap.size):∀ j v,(pairsCs [q])[j]? = some v->(w.alloc (.cells #[strV q.1,strV q.2] T)).cell? ((⟨B,0,none⟩:Addr).add j)=some v:=by
 intro j v h
 subst hB
 rw [addr_add]
 have hb:=Blk.new w T #[strV q.1,strV q.2]
 match j with
 | 0=>cases h;exact hb.cell 0
 | 1=>cases h;exact hb.cell 1
 | j+2=>simp [pairsCs,pairCs] at h
theorem sl_pair (w:World) (q:Pair) (T:TypeId):Sl (w.alloc (.cells #[strV q.1,strV q.2] T)) 2 (.slice (some ⟨w.heap.size,0,none⟩) 1 1) 1 (pairsCs [q]):=by
 refine ⟨_,_,rfl,Nat.le_refl _,rfl,λ _=>⟨w.heap.size,0,rfl,by simp,λ j u hu=>?_⟩⟩
 have:=row_pair w q T _ rfl j u hu
 rw [addr_add] at this
 exact this
theorem refPut_any (B:Nat) (x:Value) (t:List Pair) (key v:Bytes) (w:World) (hx:w.ownsRow B 139 2 x t.length (pairsCs t)) (hn:t.length<=10000) (hks:∀ q∈t,q.1.length<=100000) (hk1:1<=key.length) (hk2:key.length<=40) (hv:v.length<=2000) :
  Calls Tryz.prog 73 #[x,strV key,strV v] w (RefPutP key v t w):=by
 obtain ⟨i0,hi,q0,q1,q2⟩:=info_parts infoPair
 have hG:=good_any key w (by omega)
 have e1:decide (1<=key.length)=true:=by simpa using hk1
 have e2:decide (key.length<=40)=true:=by simpa using hk2
 rw [e1,e2] at hG
 obtain ⟨m,hm⟩:=nmz (v.length)
 have hm2:¬ (2000:Int)<(m:Int):=by omega
 obtain ⟨A,c,rfl,hnc⟩:∃ A c,x=.slice A t.length c/\t.length<=c:=by obtain ⟨A,c,e,h,_⟩:=Sl.of_own hx;exact ⟨A,c,e,h⟩
 have hsl:=Sl.of_own hx
 have hAc:A=none->c=0/\t=[]:=by
  rintro rfl
  rcases hx.2 with ⟨e,h⟩ | ⟨g,cap,cur,e,_⟩
  ·simp only [Value.slice.injEq] at e
   exact ⟨e.2.2,List.eq_nil_of_length_eq_zero e.2.1⟩
  ·simp at e
 have hF:=findP_any A t.length c t key w hsl (by omega) (by omega) hks
 obtain ⟨k,hk⟩:∃ k,k=aheadP key t:=⟨_,rfl⟩
 obtain ⟨is,his⟩:∃ is,is=isAtP key t:=⟨_,rfl⟩
 obtain ⟨d,hd⟩:∃ d,d=if is then k+1 else k:=⟨_,rfl⟩
 have hins:=insP_at key v t
 rw [<- his,<- hk,<- hd] at hins
 unfold FindP at hF
 rw [<- hk,<- his] at hF
 have hkt:k<=t.length:=hk ▸ aheadP_le key t
 have hkd:is=true->k+1<=t.length:=λ h=>by have:=aheadAt_lt (his ▸ h:isAtP key t=true);omega
 have hdt:d<=t.length:=by rw [hd];cases is with | true=>simpa using hkd rfl | false=>simpa using hkt
 -- the front and the rest
 obtain ⟨A1,c1,hA1,hs1,hn1⟩:∃ A1 c1,(Value.slice A k c=.slice A1 k c1)/\Sl w 2 (.slice A1 k c1) k (pairsCs (t.take k))/\(A1=none->c1=0):=by
  refine ⟨A,c,rfl,?_,λ h=>(hAc h).1⟩
  rw [<- pairsCs_take]
  exact Sl.take hsl hkt
 cases hA1
 have hrest:∀ j,j<=t.length->∃ A3,(A=none->A3=none/\c-j=0)/\(∀ blk off,A=some ⟨blk,off,none⟩->A3=if c=j then some ⟨blk,off,none⟩ else some ⟨blk,off+j*2,none⟩)/\Sl w 2 (.slice A3 (t.length-j) (c-j)) (t.length-j) (pairsCs (t.drop j))/\(A3=none->c-j=0):=by
  intro j hj
  cases A with
  | none =>
   obtain ⟨rfl,rfl⟩:=hAc rfl
   exact ⟨none,λ _=>⟨rfl,by omega⟩,λ blk off h=>(by cases h),by simpa [pairsCs] using Sl.nil w 2 (0-j) none,λ _=>by omega⟩
  | some a =>
   rcases hx.2 with ⟨e,_⟩ | ⟨g,cap,cur,e,_⟩
   ·cases e
   ·cases e
    by_cases hc:c=j
    ·refine ⟨some ⟨g,0,none⟩,λ h=>(by cases h),λ blk off h=>(by cases h;rw [if_pos hc]),?_,λ h=>by cases h⟩
     have:t.length-j=0:=by omega
     rw [this,List.drop_of_length_le (by omega)]
     exact Sl.nil ..
    ·refine ⟨some ⟨g,0+j*2,none⟩,λ h=>(by cases h),λ blk off h=>(by cases h;rw [if_neg hc]),?_,λ h=>by cases h⟩
     rw [<- pairsCs_drop]
     exact Sl.drop hsl hj
 have hins_len:(insP key v t).length<=10001:=by have:=(insP_len (k:=key) (v:=v) t).1;omega
 have hlen:(insP key v t).length=k+1+(t.length-d):=by
  rw [hins,List.length_append,List.length_cons,List.length_take,List.length_drop]
  omega
 have hcs:pairsCs (insP key v t)=pairsCs (t.take k)++pairsCs [(key,v)]++pairsCs (t.drop d):=by
  rw [hins,<- pairsCs_app,<- pairsCs_app]
  simp
 have hE:∀ u W,W.ownsRow w.heap.size 139 2 u (k+1+(t.length-d)) (pairsCs (t.take k)++pairsCs [(key,v)]++pairsCs (t.drop d))->Below w.heap.size w W->RefPutP key v t w (.returned (.tuple #[u,.int .i64 0])) W:=λ u W h1 h2=>by
  refine ⟨u,rfl,?_,h2⟩
  rw [hlen,hcs]
  exact h1
 have HE:=Hdz hE
 have HF:=Hdz hF
 have HG:=Hdz hG
 have HRest:=Hdz hrest
 have HS1:=Hdz hs1
 have HKD:=Hdz hkd
 have HD:=Hdz hd
 have hb:=Hdz hx
 clear hE hF hG hrest hs1 hcs hlen hins hk his hsl hx e1 e2 hins_len hkd hd hk1 hk2 hv hks
 cases A with
 | none =>
  obtain ⟨rfl,rfl⟩:=hAc rfl
  have hk0:k=0:=by simpa using hkt
  have hd0:d=0:=by simpa using hdt
  subst hk0 hd0
  cases is with
  | true=>exact absurd (HKD.out rfl) (by simp)
  | false =>
   clear hAc hn1 hdt hkt hnc hn
   go_enter Tryz.func73,Tryz.ntmps73
   go_wp2_with (fail)
   go_must (refine HG.out.mono ?_)
   rintro e w0 ⟨rfl,rfl⟩
   go_wp2_with (fail)
   go_must (refine HF.out.mono ?_)
   rintro e w1 ⟨rfl,hb1⟩
   have hz1:=hb1.size
   go_wp2_with (at_builtin;go_must (refine wpList_append_sl rfl _ _ 78 rfl w.heap.size 139 i0 _ 2 32 Tryz.underlying78 hi q0 q1 q2 rfl (by decide) (.slice none 0 0) 0 [] rfl (World.ownsRow_nil _ _ _ _) none 0 0 [] rfl (Sl.nil ..) (λ _=>rfl) (by simp) (by decide) (by omega) hz1 ?_))
   intro v1 w2 own1 gr1
   have hb2:Below w.heap.size w w2:=hb1.grown gr1 hz1 (λ k hk=>by cases hk)
   have hz2:=hb2.size
   obtain ⟨A1,c1,rfl,_⟩:=Sl.of_own own1
   go_wp2_with (at_builtin;go_must (refine wpList_append_sl rfl _ _ 78 rfl w.heap.size 139 i0 _ 2 32 Tryz.underlying78 hi q0 q1 q2 rfl (by decide) _ 0 [] rfl (own1.alloc _) (some ⟨w2.heap.size,0,none⟩) 1 1 (pairsCs [(key,v)]) rfl (sl_pair w2 (key,v) _) (λ h=>by cases h) (pairsCs_one _) (by decide) (by omega) (by simp;omega) ?_))
   intro v2 w3 own2 gr2
   have hb3:Below w.heap.size w w3:=(hb2.alloc hz2 _).grown gr2 (by simp;omega) (λ k hk=>(own1.lt k hk).1)
   have hz3:=hb3.size
   obtain ⟨A2,c2,rfl,_⟩:=Sl.of_own own2
   go_wp2_with (at_builtin;go_must (refine wpList_append_sl rfl _ _ 78 rfl w.heap.size 139 i0 _ 2 32 Tryz.underlying78 hi q0 q1 q2 rfl (by decide) _ 1 (pairsCs [(key,v)]) rfl own2 none 0 0 [] rfl (Sl.nil ..) (λ _=>rfl) (by simp) (by decide) (by omega) hz3 ?_))
   intro v3 w4 own3 gr3
   have hb4:Below w.heap.size w w4:=hb3.grown gr3 hz3 (λ k hk=>(own2.lt k hk).1)
   obtain ⟨A3,c3,rfl,_⟩:=Sl.of_own own3
   go_wp2_with (fail)
   refine bodyPost_ret (v:=.tuple #[.slice A3 1 c3,.int .i64 0]) (by simp [results,Tryz.results73,go_sem]) rfl ?_
   exact HE.out _ _ (by simpa [pairsCs] using own3) hb4
 | some a =>
  obtain ⟨g,off,rfl⟩:∃ g off,a=⟨g,off,none⟩:=by
   rcases hb.out.2 with ⟨e,_⟩ | ⟨g,cap,cur,e,_⟩
   ·cases e
   ·cases e;exact ⟨g,0,rfl⟩
  obtain ⟨n,hn'⟩:∃ n,t.length=n:=⟨_,rfl⟩
  rw [hn'] at hkt hdt hnc hn HE HF HRest HKD hb ⊢
  obtain ⟨A3,_,hA3,hs3,hn3⟩:=HRest.out d hdt
  replace hA3:=(hA3 g off rfl).symm
  have hkn:(k:Int)<=(n:Int):=by omega
  have hkc:k<=c:=by omega
  have hdn:d<=n:=hdt
  have hML:100000<=maxLen:=by unfold maxLen;omega
  have HS3:=Hdz (Anz hs3 hn3)
  have HN:=Hdz hn'
  clear hAc hn1 hs3 hn3 hn'
  go_enter Tryz.func73,Tryz.ntmps73
  go_wp2_with (fail)
  go_must (refine HG.out.mono ?_)
  rintro e w0 ⟨rfl,rfl⟩
  go_wp2_with (fail)
  go_must (refine HF.out.mono ?_)
  rintro e w1 ⟨rfl,hb1⟩
  have hz1:=hb1.size
  cases is with
  | true =>
   have hd1:d=k+1:=HD.out
   have hw1:IntKind.i64.wrap ((k:Int)+1)=(k:Int)+1:=IntWalk.i64_in _ (by omega)
   have hk1n:(k:Int)+1<=(n:Int):=by omega
   have hk0:(0:Int)<=(k:Int)+1:=by omega
   have htn:((k:Int)+1).toNat=k+1:=by omega
   subst hd1
   go_wp2_with (at_builtin;go_must (refine wpList_append_sl rfl _ _ 78 rfl w.heap.size 139 i0 _ 2 32 Tryz.underlying78 hi q0 q1 q2 rfl (by decide) (.slice none 0 0) 0 [] rfl (World.ownsRow_nil _ _ _ _) (some ⟨g,off,none⟩) k c (pairsCs (t.take k)) rfl (HS1.out.below hb1) (λ h=>by cases h) (pairsCs_one _) (by omega) (by omega) hz1 ?_))
   intro v1 w2 own1 gr1
   have hb2:Below w.heap.size w w2:=hb1.grown gr1 hz1 (λ k hk=>by cases hk)
   have hz2:=hb2.size
   obtain ⟨A1,c1,rfl,_⟩:=Sl.of_own own1
   go_wp2_with (at_builtin;go_must (refine wpList_append_sl rfl _ _ 78 rfl w.heap.size 139 i0 _ 2 32 Tryz.underlying78 hi q0 q1 q2 rfl (by decide) _ _ _ rfl (own1.alloc _) (some ⟨w2.heap.size,0,none⟩) 1 1 (pairsCs [(key,v)]) rfl (sl_pair w2 (key,v) _) (λ h=>by cases h) (pairsCs_one _) (by omega) (by omega) (by simp;omega) ?_))
   intro v2 w3 own2 gr2
   have hb3:Below w.heap.size w w3:=(hb2.alloc hz2 _).grown gr2 (by simp;omega) (λ k hk=>(own1.lt k hk).1)
   have hz3:=hb3.size
   obtain ⟨A2,c2,rfl,_⟩:=Sl.of_own own2
   go_wp2_with (at_builtin;go_must (refine wpList_append_sl rfl _ _ 78 rfl w.heap.size 139 i0 _ 2 32 Tryz.underlying78 hi q0 q1 q2 rfl (by decide) _ _ _ rfl own2 A3 _ _ (pairsCs (t.drop (k+1))) rfl (HS3.out.1.below hb3) HS3.out.2 (pairsCs_one _) (by omega) (by omega) hz3 ?_))
   intro v3 w4 own3 gr3
   have hb4:Below w.heap.size w w4:=hb3.grown gr3 hz3 (λ k hk=>(own2.lt k hk).1)
   obtain ⟨A4,c4,rfl,_⟩:=Sl.of_own own3
   go_wp2_with (fail)
   refine bodyPost_ret (v:=.tuple #[.slice A4 _ c4,.int .i64 0]) (by simp [results,Tryz.results73,go_sem];rfl) rfl ?_
   have hkn2:k+1+(n-(k+1))=n:=by omega
   exact HE.out _ _ (by simpa [hkn2] using own3) hb4
  | false =>
   have hd1:d=k:=HD.out
   subst hd1
   go_wp2_with (at_builtin;go_must (refine wpList_append_sl rfl _ _ 78 rfl w.heap.size 139 i0 _ 2 32 Tryz.underlying78 hi q0 q1 q2 rfl (by decide) (.slice none 0 0) 0 [] rfl (World.ownsRow_nil _ _ _ _) (some ⟨g,off,none⟩) d c (pairsCs (t.take d)) rfl (HS1.out.below hb1) (λ h=>by cases h) (pairsCs_one _) (by omega) (by omega) hz1 ?_))
   intro v1 w2 own1 gr1
   have hb2:Below w.heap.size w w2:=hb1.grown gr1 hz1 (λ k hk=>by cases hk)
   have hz2:=hb2.size
   obtain ⟨A1,c1,rfl,_⟩:=Sl.of_own own1
   go_wp2_with (at_builtin;go_must (refine wpList_append_sl rfl _ _ 78 rfl w.heap.size 139 i0 _ 2 32 Tryz.underlying78 hi q0 q1 q2 rfl (by decide) _ _ _ rfl (own1.alloc _) (some ⟨w2.heap.size,0,none⟩) 1 1 (pairsCs [(key,v)]) rfl (sl_pair w2 (key,v) _) (λ h=>by cases h) (pairsCs_one _) (by omega) (by omega) (by simp;omega) ?_))
   intro v2 w3 own2 gr2
   have hb3:Below w.heap.size w w3:=(hb2.alloc hz2 _).grown gr2 (by simp;omega) (λ k hk=>(own1.lt k hk).1)
   have hz3:=hb3.size
   obtain ⟨A2,c2,rfl,_⟩:=Sl.of_own own2
   go_wp2_with (at_builtin;go_must (refine wpList_append_sl rfl _ _ 78 rfl w.heap.size 139 i0 _ 2 32 Tryz.underlying78 hi q0 q1 q2 rfl (by decide) _ _ _ rfl own2 A3 _ _ (pairsCs (t.drop d)) rfl (HS3.out.1.below hb3) HS3.out.2 (pairsCs_one _) (by omega) (by omega) hz3 ?_))
   intro v3 w4 own3 gr3
   have hb4:Below w.heap.size w w4:=hb3.grown gr3 hz3 (λ k hk=>(own2.lt k hk).1)
   obtain ⟨A4,c4,rfl,_⟩:=Sl.of_own own3
   go_wp2_with (fail)
   refine bodyPost_ret (v:=.tuple #[.slice A4 _ c4,.int .i64 0]) (by simp [results,Tryz.results73,go_sem];rfl) rfl ?_
   exact HE.out _ _ (by simpa using own3) hb4
/-- slices.Delete of one element, out of a row of one's own. -/
theorem sdelI_any (base g n cap i:Nat) (l:List Item) (w:World) (h:w.ownsRow base 223 4 (.slice (some ⟨g,0,none⟩) n cap) n (itemsCs l)) (hi:i<n) (hn:n<=10000) (hb:base<=w.heap.size) :
  Calls Tryz.prog 230 #[.slice (some ⟨g,0,none⟩) n cap,.int .i64 (i:Int),.int .i64 ((i:Int)+1)] w λ e w' =>
   ∃ v,e=.returned v/\w'.ownsRow base 223 4 v (n-1) (itemsCs (l.take i++l.drop (i+1)))/\Keeps (λ k=>k=g) w w':=by
 obtain ⟨i0,hinf,hz0,hz1,hz2⟩:=info_parts (show (Tryz.prog.info? 223).map (λ i=>(i.zero,i.size,i.bytes))=some (some (.agg #[.string ⟨#[]⟩,.string ⟨#[]⟩,.int .i64 0,.int .i64 0]),4,48) by kernel_rfl)
 have hll:l.length=n:=by have:=h.1;rw [itemsCs_len] at this;omega
 have hcap:n<=cap:=by
  rcases h.2 with ⟨e0,_⟩ | ⟨g',cap',cur,e0,_,_,hnc,_⟩
  ·cases e0
  ·simp only [Value.slice.injEq,Option.some.injEq,Addr.mk.injEq,and_true,true_and] at e0
   obtain ⟨rfl,rfl⟩:=e0
   exact hnc
 obtain ⟨j,hj⟩:=nmz (i+1)
 obtain ⟨m,hm⟩:=nmz (n-1)
 -- what is moved up
 obtain ⟨ad,had,hadj⟩:∃ ad:Addr,(if cap=j then some (⟨g,0,none⟩:Addr) else some ⟨g,j*4,none⟩)=some ad/\(cap=j\/ad=⟨g,j*4,none⟩):=by
  by_cases hc:cap=j
  ·exact ⟨_,by rw [if_pos hc],.inl hc⟩
  ·exact ⟨_,by rw [if_neg hc],.inr rfl⟩
 have hnews:∀ k u,(itemsCs (l.drop j))[k]? = some u->w.drew.cell? (ad.add k)=some u:=λ k u hu=>by
  rcases hadj with hc | rfl
  ·rw [List.drop_eq_nil_of_le (by omega)] at hu
   simp [itemsCs] at hu
  rw [<- itemsCs_drop,List.getElem?_drop] at hu
  have h1:=h.cells (g:=g) rfl _ _ hu
  rw [addr_add] at h1 ⊢
  rw [Nat.zero_add] at h1
  exact h1
 have hfr:=own_front h (Nat.le_of_lt hi)
 rw [itemsCs_take] at hfr
 obtain ⟨w1,hr,hown1,hg1⟩:=run_append_stays (P:=Tryz.prog) (ty:=217) w.drew (i:=i0) Tryz.underlying217 hinf hz0 hz1 hz2 rfl (by decide) (show w.drew.ownsRow base 223 4 (.slice (some ⟨g,0,none⟩) i cap) i (itemsCs (l.take i)) from hfr) (a:=ad) (m:=n-j) (c:=cap-j) (news:=itemsCs (l.drop j)) (by rw [itemsCs_len,List.length_drop];omega) hnews (itemsCs_one _) (by omega) (by unfold maxLen;omega) (by omega) hb
 have hmm:i+(n-j)=m:=by omega
 rw [hmm,<- itemsCs_append] at hown1
 rw [hmm] at hr
 have hK1:Keeps (λ k=>k=g) w w1:=((Keeps.refl (λ k=>k=g) w).drew).grown hg1 λ k e _=>by cases e;rfl
 -- what is cleared
 obtain ⟨cur',hb1,hcs1⟩:∃ cur',w1.heap[g]? = some (.cells cur' 223 (0,0))/\n*4<=cur'.size:=by
  rcases hown1.2 with ⟨e0,_⟩ | ⟨g',cap',cur,e0,_,hg',hnc,_,hcs,_⟩
  ·cases e0
  ·simp only [Value.slice.injEq,Option.some.injEq,Addr.mk.injEq,and_true,true_and] at e0
   obtain ⟨rfl,rfl⟩:=e0
   exact ⟨cur,hg',by omega⟩
 have hB1:Blk w1 g 223 cur':=hb1
 have hcl:=λ ty=>run_clear_one (P:=Tryz.prog) w1 217 223 ty (.agg #[.string ⟨#[]⟩,.string ⟨#[]⟩,.int .i64 0,.int .i64 0]) Tryz.underlying217 (λ W=>by kernel_rfl) (by simp [Value.cells,Value.oneCell']) g (m*4) (cap-m) (λ k hk=>by
  rw [hB1.cell]
  have h4:k<4:=hk
  rw [Array.getElem?_eq_getElem (by omega)]
  rfl) (λ k _=>hB1.frozen _)
 have hown2:=own_beyond (vs:=(Value.agg #[.string ⟨#[]⟩,.string ⟨#[]⟩,.int .i64 0,.int .i64 0]).cells.toList) hown1 (Nat.le_refl _)
 have hK2:=hK1.trans (setCells_frm ((Value.agg #[.string ⟨#[]⟩,.string ⟨#[]⟩,.int .i64 0,.int .i64 0]).cells.toList) (m*4) w1) λ _ _ e=>e
 obtain ⟨w2,hw2⟩:=nmz (w1.setCells g (m*4) (Value.agg #[.string ⟨#[]⟩,.string ⟨#[]⟩,.int .i64 0,.int .i64 0]).cells.toList)
 rw [hw2] at hown2 hK2 hcl
 have hne:((i:Int)==(i:Int)+1)=false:=by simp;omega
 have hi0:(0:Int)<=(i:Int):=by omega
 have hi1:(i:Int)<=(i:Int)+1:=by omega
 have hi2:(i:Int)+1<=(n:Int):=by omega
 have hnc:(n:Int)<=(cap:Int):=by omega
 have hic:(i:Int)<=(cap:Int):=by omega
 have hm0:(0:Int)<=(m:Int):=by omega
 have hmn:(m:Int)<=(n:Int):=by omega
 have hi01:(0:Int)<=(i:Int)+1:=by omega
 have hcm:¬ cap=m:=by omega
 have hnm:n-m=1:=by omega
 have HE:=Hdz (Anz hown2 hK2)
 have HJ:=Hdz hj
 clear hadj hfr hnews hown1 hg1 hmm hK1 hb1 hcs1 hB1 hown2 hK2 hw2 h
 go_enter Tryz.func230,Tryz.ntmps230
 go_wp2_with (fail)
 refine wRz ?_
 try simp only [lAz]
 refine tA 0 ?_;try simp only [lAz]
 refine tA 1 ?_;try simp only [lAz]
 refine tA 2 ?_;try simp only [lAz]
 refine tA 3 ?_;try simp only [lAz]
 refine tA 4 ?_;try simp only [lAz]
 refine tA 5 ?_;try simp only [lAz]
 refine rZz 6 λ K hK=>?_;refine if_on rfl ?_
 go_must (refine wp_append_eq _ _ 217 rfl rfl rfl hr ?_)
 go_simp
 apply hK
 clear hK K
 try simp only [lAz]
 refine tA 7 ?_;try simp only [lAz]
 refine wDz ?_
 go_wp2_with (fail)
 go_ret
 refine ⟨_,rfl,?_,HE.out.2⟩
 rw [HJ.out,hm]
 exact HE.out.1
theorem delI_any (A:Option Addr) (n c:Nat) (l:List Item) (key:Bytes) (w:World) (hv:Sl w 4 (.slice A n c) n (itemsCs l)) (hn:n<=10000) (hr:riseI l=true) :
  Calls Tryz.prog 191 #[.slice A n c,strV key] w (OwnPost (delI l key) w):=by
 have hl:=hv.len4
 subst hl
 have hale:=ahead_le key l
 have HF:=Hdz (findI_any A l.length c l key w hv (by omega) hr)
 have HC:=Hdz (λ W (hb:Below w.heap.size w W)=>cloneI_all A l.length c l W (hv.below hb) (by omega))
 have HDel:Hid (isAt key l=true->delI l key=l.take (ahead key l)++l.drop (ahead key l+1)):=λ h=>by unfold delI;rw [if_pos h]
 have HNot:Hid (isAt key l=false->delI l key=l):=λ h=>by unfold delI;rw [if_neg (by rw [h];decide)]
 have HLt:Hid (isAt key l=true->ahead key l<l.length):=λ h=>by
  obtain ⟨x,hx,_⟩:=isAt_iff.1 h
  exact (List.getElem?_eq_some_iff.1 hx).1
 clear hv hr
 generalize ahead key l=i at *
 go_enter Tryz.func191,Tryz.ntmps191
 go_wp2_with (fail)
 go_must (refine HF.out.mono ?_)
 rintro e w1 ⟨rfl,hb1⟩
 have HC1:=Hdz (HC.out w1 hb1)
 have HB1:=Hdz hb1
 clear hb1
 go_wp2_with (fail)
 go_must (refine HC1.out.mono ?_)
 rintro e w2 ⟨v2,rfl,hown,hb2⟩
 have HB2:=Hdz (HB1.out.trans (hb2.mono HB1.out.size))
 have hown:=own_base hown HB1.out.size
 clear hb2
 cases hat:isAt key l with
 | false =>
  have hd:=HNot.out hat
  have HE:Hid (OwnPost (delI l key) w (.returned v2) w2):=by
   rw [hd]
   exact ⟨v2,rfl,hown,HB2.out⟩
  obtain ⟨A2,c2,rfl,_⟩:=Sl.of_own hown
  clear hown hd
  go_wp2_with (fail)
  go_ret
  exact HE.out
 | true =>
  have hlt:=HLt.out hat
  have hd:=HDel.out hat
  rcases hown.2 with ⟨_,h0⟩ | ⟨g,cap,cur,rfl,hbg,_⟩
  ·omega
  have hDl:=sdelI_any w.heap.size g l.length cap i l w2 hown hlt (by omega) HB2.out.size
  have hwi:IntKind.i64.wrap ((i:Int)+1)=(i:Int)+1:=IntWalk.i64_in _ (by omega)
  have HDl:=Hdz hDl
  have HD:=Hdz hd
  clear hDl hown hd
  go_wp2_with (fail)
  go_must (refine HDl.out.mono ?_)
  rintro e w3 ⟨v3,rfl,hown3,hk3⟩
  have hl3:l.length-1=(delI l key).length:=by
   rw [HD.out,List.length_append,List.length_take,List.length_drop]
   omega
  have HE:Hid (OwnPost (delI l key) w (.returned v3) w3):=by
   refine ⟨v3,rfl,?_,HB2.out.trans (hk3.below HB2.out.size λ k hk e=>by omega)⟩
   rw [<- hl3,HD.out]
   exact hown3
  obtain ⟨A3,c3,rfl,_⟩:=Sl.of_own hown3
  clear hown3 hk3 hl3
  go_wp2_with (fail)
  go_ret
  exact HE.out
theorem devNew_any (most:Nat) (w:World) (h1:1<=most) (h2:most<=3000) :
  Calls Tryz.prog 120 #[.int .i64 most] w λ e w'=>e=.returned (.tuple #[ptrV w.heap.size,.int .i64 0]) ∧
   w.alloc (.cells #[.int .i64 most,.bool true,.bool false,.int .i64 0,.slice none 0 0,.slice none 0 0,.chan none] 262)=w':=by
 have g1:¬ (most:Int)<1:=by omega
 have g2:¬ (3000:Int)<(most:Int):=by omega
 go_enter Tryz.func120,Tryz.ntmps120
 go_wp2
 go_ret2
 exact ⟨rfl,rfl⟩
theorem DevAt.new (most:Nat) (w:World) (h2:most<=3000) :
  DevAt (w.alloc (.cells #[.int .i64 most,.bool true,.bool false,.int .i64 0,.slice none 0 0,.slice none 0 0,.chan none] 262)) w.heap.size most 0 (.slice none 0 0) (.slice none 0 0):=
 ⟨Blk.new _ _ _,⟨_,World.ownsRow_nil _ _ _ _⟩,⟨_,World.ownsRow_nil _ _ _ _⟩,λ k h=>(by cases h),⟨by omega,by omega⟩⟩
theorem refNew_any (most:Nat) (w:World) (h1:1<=most) (h2:most<=3000) :
  Calls Tryz.prog 121 #[.int .i64 most] w λ e w'=>e=.returned (.tuple #[ptrV w.heap.size,.int .i64 0])/\w.alloc (.cells (refDev most) 265)=w':=by
 have g1:¬ (most:Int)<1:=by omega
 have g2:¬ (3000:Int)<(most:Int):=by omega
 go_enter Tryz.func121,Tryz.ntmps121
 go_wp2
 go_ret2
 exact ⟨rfl,rfl⟩
theorem freePut_any (b:Nat) (w:World) :
  Calls Tryz.prog 210 #[ptrV b,.slice none 0 0] w λ e w'=>e=.returned (.tuple #[])/\w'=w:=by
 go_enter Tryz.func210,Tryz.ntmps210
 go_wp2
 go_loopg [10] 0 (λ gk s10 wr=>s10=.int .i64 0/\wr=w)
 case atStart=>exact ⟨rfl,rfl⟩
 case round =>
  obtain ⟨rfl,rfl⟩:=hrel
  go_wp2_with (fail)
  refine bodyPost_end (results_none rfl _ _ _) rfl ?_
  exact ⟨rfl,rfl⟩
theorem freeNew_any (w:World) :
  Calls Tryz.prog 124 #[.slice none 0 0] w λ e w'=>e=.returned (ptrV w.heap.size)/\w.alloc (.cells #[.slice none 0 0,.slice none 0 0,.map none] 274)=w':=by
 have hB:∀ W:World,Calls Tryz.prog 172 #[ptrV w.heap.size,.slice none 0 0] W λ e w'=>e=.returned (.tuple #[])/\w'=W:=by
  intro W
  go_enter Tryz.func172,Tryz.ntmps172
  go_wp2_with (fail)
  go_must (refine (freePut_any _ _).mono ?_)
  rintro e w1 ⟨rfl,rfl⟩
  go_wp2
  refine bodyPost_end (results_none rfl _ _ _) rfl ?_
  exact ⟨rfl,rfl⟩
 go_enter Tryz.func124,Tryz.ntmps124
 go_wp2_with (fail)
 go_must (refine (hB _).mono ?_)
 rintro e w1 ⟨rfl,rfl⟩
 go_wp2
 go_ret
 exact ⟨rfl,rfl⟩
theorem cloneNil_any (w:World):Calls Tryz.prog 215 #[.slice none 0 0] w λ e w'=>e=.returned (.slice none 0 0)/\w=w':=by
 have q22:∀ (w:World) (a:Option Addr) (n c n' c':Nat),(binOp .eql 35 (.slice a n c) (.slice none n' c')).run Tryz.prog w=.ok (.bool a.isNone) w:=λ w a n c n' c'=>Lib.run_eql_slice_nil w _ 3 a n c n' c' Tryz.underlying35
 go_enter Tryz.func215,Tryz.ntmps215
 go_wp2
 go_ret
 exact ⟨rfl,rfl⟩
theorem heapInit_nil (b:Nat) (w:World) (h:w.cell? ⟨b,0,none⟩=some (.slice none 0 0)) :
  Calls Tryz.prog 216 #[.iface 331 (.pointer (some ⟨b,0,none⟩))] w λ e w'=>e=.returned (.tuple #[])/\w=w':=by
 have hm:=m_len b _ w h
 go_enter Tryz.func216,Tryz.ntmps216
 go_wp2_with (fail)
 go_must (refine (lenN_any _ _ _ _).mono ?_)
 rintro e w2 ⟨rfl,rfl⟩
 go_wp2_with (fail)
 go_loopg [3] 0 (λ gk s3 wr=>s3=.int .i64 (-1)/\wr=w2)
 case atStart=>exact ⟨rfl,rfl⟩
 case round =>
  obtain ⟨rfl,rfl⟩:=hrel
  go_wp2_with (fail)
  refine bodyPost_end (results_none rfl _ _ _) rfl ?_
  exact ⟨rfl,rfl⟩
theorem pileNew_any (w:World) :
  Calls Tryz.prog 177 #[.slice none 0 0] w λ e w'=>e=.returned (ptrV w.heap.size)/\w.alloc (.cells #[.slice none 0 0] 270)=w':=by
 have hb:Blk (w.alloc (.cells #[.slice none 0 0] 270)) w.heap.size 270 #[.slice none 0 0]:=Blk.new _ _ _
 have hI:=Hdz (heapInit_nil w.heap.size _ (hb.cell 0))
 clear hb
 go_enter Tryz.func177,Tryz.ntmps177
 go_wp2_with (fail)
 go_must (refine (cloneNil_any _).mono ?_)
 rintro e w1 ⟨rfl,rfl⟩
 go_wp2_with (fail)
 go_must (refine hI.out.mono ?_)
 rintro e w2 ⟨rfl,rfl⟩
 go_wp2
 go_ret
 exact ⟨rfl,rfl⟩
def pg0 (d f:Nat):Array Value:=#[ptrV d,ptrV f,.int .i64 2,.int .i64 2,.int .i64 1,.map none,.map none,.map none,.pointer none]
def ClearP (p d f:Nat) (w:World) (e:Ending) (w':World):Prop:=
 e=.returned (.tuple #[])/\∃ mb db wb sb,Blk w' p 212 #[ptrV d,ptrV f,.int .i64 2,.int .i64 2,.int .i64 1,.map (some mb),.map (some db),.map (some wb),ptrV sb]/\MapI w' mb [] 0/\MapI w' db [] 0/\MapI w' wb [] 0/\Pl w' sb (.slice none 0 0) [] ∧
  w.heap.size<=mb/\mb<db/\db<wb/\wb<sb/\Keeps (λ k=>k=p) w w'
theorem MapI.newM (w:World):MapI (w.alloc (.map #[] 0)) w.heap.size [] 0:=heap_alloc_new w _
theorem MapI.allocM {w:World} {b c:Nat} {l:List Ent} (h:MapI w b l c) (o:Obj):MapI (w.alloc o) b l c:=h.keeps (S:=λ _=>False) (Keeps.of_below ((Below.refl _ w).alloc (Nat.le_refl _) o)) λ h=>h
theorem pl_new (w:World):Pl (w.alloc (.cells #[.slice none 0 0] 270)) w.heap.size (.slice none 0 0) []:=by
 have hb:Blk (w.alloc (.cells #[.slice none 0 0] 270)) w.heap.size 270 #[.slice none 0 0]:=Blk.new _ _ _
 exact ⟨hb.cell 0,hb.frozen 0,hb.lt,World.ownsRow_nil _ _ _ _,by simp [Value.ownBlock]⟩
theorem clear_end {p d f:Nat} {w w1 w2 w3 w4:World} (h:Blk w p 212 (pg0 d f)) (e1:w.alloc (.map #[] 0)=w1) (e2:w1.alloc (.map #[] 0)=w2) (e3:w2.alloc (.map #[] 0)=w3) (e4:w3.alloc (.cells #[.slice none 0 0] 270)=w4) :
  ClearP p d f w (.returned (.tuple #[])) ((((w4.setCell ⟨p,5,none⟩ (.map (some w.heap.size))).setCell ⟨p,6,none⟩ (.map (some w1.heap.size))).setCell ⟨p,7,none⟩ (.map (some w2.heap.size))).setCell ⟨p,8,none⟩ (ptrV w3.heap.size)):=by
 have hp:=h.lt
 have z1:w1.heap.size=w.heap.size+1:=by subst e1;simp
 have z2:w2.heap.size=w.heap.size+2:=by subst e2;simp [z1]
 have z3:w3.heap.size=w.heap.size+3:=by subst e3;simp [z2]
 have hb:Blk w4 p 212 (pg0 d f):=by subst e4 e3 e2 e1;exact (((h.alloc _).alloc _).alloc _).alloc _
 have K:Keeps (λ k=>k=p) w4 ((((w4.setCell ⟨p,5,none⟩ (.map (some w.heap.size))).setCell ⟨p,6,none⟩ (.map (some w1.heap.size))).setCell ⟨p,7,none⟩ (.map (some w2.heap.size))).setCell ⟨p,8,none⟩ (ptrV w3.heap.size)):=
  ((((Keeps.refl (λ k=>k=p) w4).setCell (p:=⟨p,5,none⟩) (λ _=>rfl) _).setCell (p:=⟨p,6,none⟩) (λ _=>rfl) _).setCell (p:=⟨p,7,none⟩) (λ _=>rfl) _).setCell (p:=⟨p,8,none⟩) (λ _=>rfl) _
 have K0:Keeps (λ k=>k=p) w w4:=by subst e4 e3 e2 e1;exact ((((Keeps.refl _ w).alloc _).alloc _).alloc _).alloc _
 have m1:MapI w4 w.heap.size [] 0:=by subst e4 e3 e2 e1;exact (((MapI.newM w).allocM _).allocM _).allocM _
 have m2:MapI w4 w1.heap.size [] 0:=by subst e4 e3 e2;exact ((MapI.newM w1).allocM _).allocM _
 have m3:MapI w4 w2.heap.size [] 0:=by subst e4 e3;exact (MapI.newM w2).allocM _
 have m4:Pl w4 w3.heap.size (.slice none 0 0) []:=by subst e4;exact pl_new w3
 refine ⟨rfl,w.heap.size,w1.heap.size,w2.heap.size,w3.heap.size,?_,m1.keeps K (by omega),m2.keeps K (by omega),m3.keeps K (by omega),m4.keeps K (by omega) (λ k e=>by cases e),by omega,by omega,by omega,by omega,K0.trans K λ _ _ e=>e⟩
 exact (((hb.set 5 _).set 6 _).set 7 _).set 8 _
theorem clear_any (p d f:Nat) (w:World) (h:Blk w p 212 (pg0 d f)):Calls Tryz.prog 130 #[ptrV p] w (ClearP p d f w):=by
 have hp:=h.lt
 obtain ⟨w1,e1⟩:=nmz (w.alloc (.map #[] 0))
 obtain ⟨w2,e2⟩:=nmz (w1.alloc (.map #[] 0))
 obtain ⟨w3,e3⟩:=nmz (w2.alloc (.map #[] 0))
 obtain ⟨w4,e4⟩:=nmz (w3.alloc (.cells #[.slice none 0 0] 270))
 have hb:Blk w4 p 212 (pg0 d f):=by subst e4 e3 e2 e1;exact (((h.alloc _).alloc _).alloc _).alloc _
 have HE:=Hdz (clear_end h e1 e2 e3 e4)
 have f5:=hb.frozen 5
 have f6:=hb.frozen 6
 have f7:=hb.frozen 7
 have f8:=hb.frozen 8
 have c5:w4.cell? ⟨p,5,none⟩=some (.map none):=hb.cell 5
 have c6:w4.cell? ⟨p,6,none⟩=some (.map none):=hb.cell 6
 have c7:w4.cell? ⟨p,7,none⟩=some (.map none):=hb.cell 7
 have c8:w4.cell? ⟨p,8,none⟩=some (.pointer none):=hb.cell 8
 have hN:=Hdz (pileNew_any w3)
 rw [e4] at hN
 subst e1 e2 e3
 clear e4 hb h
 have hMM:∀ (t:TypeId) (W:World),(Instr.makeMap t none).run Tryz.prog W=.ok (.map (some W.heap.size)) (W.alloc (.map #[] 0)):=λ t W=>run_makeMap t W
 go_enter Tryz.func130,Tryz.ntmps130
 go_wp2_with (fail)
 go_must (refine hN.out.mono ?_)
 rintro e w5 ⟨rfl,rfl⟩
 go_wp2_with (fail)
 go_end0
 have hE:=HE.out
 simp only [World.size_alloc] at hE
 exact hE
theorem listNil_any (f:Nat) (w:World) (h:w.cell? ⟨f,0,none⟩=some (.slice none 0 0)) :
  Calls Tryz.prog 175 #[ptrV f] w λ e w'=>e=.returned (.slice none 0 0)/\Below w.heap.size w w':=by
 go_enter Tryz.func175,Tryz.ntmps175
 have hV:Calls Tryz.prog 212 #[.slice none 0 0] w λ e w'=>e=.returned (.func (.func 246) #[] #[.pointer (some ⟨w.heap.size,0,none⟩)])/\w.alloc (.cells #[.slice none 0 0] 268)=w':=by
  go_enter Tryz.func212,Tryz.ntmps212
  go_wp2
  go_ret
  exact ⟨rfl,rfl⟩
 go_wp2_with (fail)
 go_must (refine hV.mono ?_)
 rintro e w1 ⟨rfl,rfl⟩
 go_wp2_with (fail)
 go_must (refine (sorted_nil (Blk.new _ _ _)).mono ?_)
 rintro e w2 ⟨rfl,hk⟩
 go_wp2_with (fail)
 go_ret
 refine ⟨rfl,((Below.refl _ w).alloc (Nat.le_refl _) _).trans (hk.below (by simp) λ i hi e=>by omega)⟩
theorem freeAll_any (f:Nat) (w:World) (h:Blk w f 274 #[.slice none 0 0,.slice none 0 0,.map none]) :
  Calls Tryz.prog 128 #[ptrV f] w λ e w'=>e=.returned (.slice none 0 0)/\Below w.heap.size w w':=by
 have hL:=Hdz (listNil_any f w (h.cell 0))
 have hlt:=h.lt
 have g1:w.cell? ⟨f,1,none⟩=some (.slice none 0 0):=h.cell 1
 clear h
 go_enter Tryz.func128,Tryz.ntmps128
 go_wp2_with (fail)
 go_must (refine hL.out.mono ?_)
 rintro e w1 ⟨rfl,hb⟩
 have g1':w1.cell? ⟨f,1,none⟩=some (.slice none 0 0):=(hb.cell (p:=⟨f,1,none⟩) hlt).trans g1
 go_wp2_with (fail)
 go_loopg [3,17] 0 (λ gk s3 s17 wr=>s3=.slice none 0 0/\s17=.int .i64 0/\wr=w1)
 case atStart=>exact ⟨rfl,rfl,rfl⟩
 case round =>
  obtain ⟨rfl,rfl,rfl⟩:=hrel
  go_wp2_with (fail)
  go_must (refine (sort_nil _).mono ?_)
  rintro e w2 ⟨rfl,hb2⟩
  go_wp2_with (fail)
  go_ret
  exact ⟨rfl,hb.trans (hb2.mono hb.size)⟩
theorem indexNil_any (F:Value) (w:World):Calls Tryz.prog 174 #[.slice none 0 0,F] w λ e w'=>e=.returned (.int .i64 (-1))/\w=w':=by
 go_enter Tryz.func174,Tryz.ntmps174
 go_wp2_with (fail)
 go_loopg [8] 0 (λ gk s8 wr=>s8=.int .i64 0/\wr=w)
 case atStart=>exact ⟨rfl,rfl⟩
 case round =>
  obtain ⟨rfl,rfl⟩:=hrel
  go_wp2_with (fail)
  go_ret
  exact ⟨rfl,rfl⟩
theorem containsNil_any (F:Value) (w:World):Calls Tryz.prog 127 #[.slice none 0 0,F] w λ e w'=>e=.returned (.bool false)/\w=w':=by
 go_enter Tryz.func127,Tryz.ntmps127
 go_wp2_with (fail)
 go_must (refine (indexNil_any _ _).mono ?_)
 rintro e w1 ⟨rfl,rfl⟩
 go_wp2
 go_ret
 exact ⟨rfl,rfl⟩
end Go.Ev
namespace Go.Ev
open Go.Lib
structure Tr where
 root:Int
 ps:List Pair
 ids:List Int
 n:Nat
def idsT (T:List Tr):List Int:=T.flatMap (·.ids)
theorem idsT_cons (t:Tr) (T:List Tr):idsT (t :: T)=t.ids++idsT T:=by simp [idsT]
theorem idsT_mem {T:List Tr} {i:Int}:i∈idsT T↔∃ t∈T,i∈t.ids:=by simp [idsT]
theorem idsT_perm {T T':List Tr} (h:T.Perm T'):(idsT T).Perm (idsT T'):=by
 unfold idsT
 exact List.Perm.flatMap_right _ h
structure Fam (M:Store) (T:List Tr) (cnt:Nat):Prop where
 each:∀ t∈T,TreeH M t.root t.ps t.ids t.n
 once:(idsT T).Nodup
 cnt:cnt=(idsT T).length
theorem Fam.perm {M:Store} {T T':List Tr} {cnt:Nat} (h:Fam M T cnt) (hp:T.Perm T'):Fam M T' cnt:=
 ⟨λ t ht=>h.each t (hp.mem_iff.2 ht),(idsT_perm hp).nodup_iff.1 h.once,by rw [h.cnt];exact (idsT_perm hp).length_eq⟩
theorem Fam.there {M:Store} {T:List Tr} {cnt:Nat} (h:Fam M T cnt):∀ i∈idsT T,M i≠none:=λ i hi=>by
 obtain ⟨t,ht,hi⟩:=idsT_mem.1 hi
 exact (h.each t ht).there i hi
theorem Fam.apart {M:Store} {t:Tr} {T:List Tr} {cnt:Nat} (h:Fam M (t :: T) cnt):∀ i∈t.ids,i ∉ idsT T:=λ i hi hT=>by
 have:=h.once
 rw [idsT_cons,List.nodup_append] at this
 exact this.2.2 i hi i hT rfl
theorem Fam.change {M M':Store} {t t':Tr} {T:List Tr} {cnt cnt':Nat} (h:Fam M (t :: T) cnt) (ht:TreeH M' t'.root t'.ps t'.ids t'.n) (hc:cnt'+t.ids.length=cnt+t'.ids.length) (hs:∀ i,i ∉ t.ids->M i≠none->M' i=M i) (hf:∀ i∈t'.ids,i∈t.ids\/M i=none):Fam M' (t' :: T) cnt':=by
 have hth:=h.there
 have hap:=h.apart
 have hsame:∀ i∈idsT T,M' i=M i:=λ i hi=>hs i (λ e=>hap i e hi) (hth i (by rw [idsT_cons];exact List.mem_append_right _ hi))
 refine ⟨λ x hx=>?_,?_,?_⟩
 ·rcases List.mem_cons.1 hx with rfl | hx
  ·exact ht
  ·exact (h.each x (List.mem_cons_of_mem _ hx)).same λ i hi=>hsame i (idsT_mem.2 ⟨x,hx,hi⟩)
 ·have h1:=h.once
  rw [idsT_cons,List.nodup_append] at h1 ⊢
  refine ⟨ht.once,h1.2.1,λ a ha b hb e=>?_⟩
  subst e
  rcases hf a ha with e | e
  ·exact hap a e hb
  ·exact hth a (by rw [idsT_cons];exact List.mem_append_right _ hb) e
 ·have h1:=h.cnt
  rw [idsT_cons,List.length_append] at h1 ⊢
  omega
theorem Fam.new {M:Store} {T:List Tr} {cnt:Nat} {root:Int} (h:Fam M T cnt) (hr:M root=none):Fam (updS M root (some ⟨2,0,[]⟩)) (⟨root,[],[root],0⟩ :: T) (cnt+1):=by
 have hth:=h.there
 have hsame:∀ i∈idsT T,updS M root (some ⟨2,0,[]⟩) i=M i:=λ i hi=>by
  unfold updS
  rw [if_neg λ e=>hth i hi (by rw [e];exact hr)]
 refine ⟨λ x hx=>?_,?_,?_⟩
 ·rcases List.mem_cons.1 hx with rfl | hx
  ·exact TreeH.new (by simp [updS])
  ·exact (h.each x hx).same λ i hi=>hsame i (idsT_mem.2 ⟨x,hx,hi⟩)
 ·rw [idsT_cons]
  refine List.nodup_append.2 ⟨by simp,h.once,λ a ha b hb e=>?_⟩
  rw [List.mem_singleton] at ha
  subst e ha
  exact hth a hb hr
 ·rw [idsT_cons,List.length_append,<- h.cnt,Nat.add_comm]
  rfl
def fix4 (v:Int):List UInt8:=(List.range 4).map λ k=>UInt8.ofNat (v.toNat / 2 ^ (8*k) % 256)
theorem fix4_len (v:Int):(fix4 v).length=4:=by simp [fix4]
structure Bk where
 name:List UInt8
 t:Tr
def topP (L:List Bk):List Pair:=L.map λ b=>(b.name,fix4 b.t.root)
def insB (b:Bk):List Bk->List Bk
 | []=>[b]
 | x :: l=>if lessB x.name b.name then x :: insB b l else if lessB b.name x.name then b :: x :: l else b :: l
def delB (k:List UInt8):List Bk->List Bk
 | []=>[]
 | x :: l=>if x.name=k then l else x :: delB k l
def getB (k:List UInt8):List Bk->Option Bk
 | []=>none
 | x :: l=>if x.name=k then some x else getB k l
theorem topP_ins (b:Bk):∀ L:List Bk,topP (insB b L)=insP b.name (fix4 b.t.root) (topP L)
 | []=>rfl
 | x :: l=>by
  have ih:=topP_ins b l
  unfold topP at ih ⊢
  simp only [insB,List.map_cons,insP]
  split
  ·simp only [List.map_cons,ih]
  ·split
   ·simp only [List.map_cons]
   ·simp only [List.map_cons]
theorem topP_get (k:List UInt8):∀ L:List Bk,getP k (topP L)=(getB k L).map λ b=>fix4 b.t.root
 | []=>rfl
 | x :: l=>by
  have ih:=topP_get k l
  unfold topP at ih ⊢
  simp only [getB,List.map_cons,getP]
  split
  ·rfl
  ·exact ih
theorem getB_name {k:List UInt8}:∀ {L:List Bk} {b:Bk},getB k L=some b->b.name=k/\b∈L
 | x :: l,b,h=>by
  simp only [getB] at h
  split at h
  ·rename_i e
   cases h
   exact ⟨e,List.mem_cons_self ..⟩
  ·obtain ⟨h1,h2⟩:=getB_name h
   exact ⟨h1,List.mem_cons_of_mem _ h2⟩
def RiseB (L:List Bk):Prop:=Rising (topP L)
theorem RiseB.tail {x:Bk} {l:List Bk} (h:RiseB (x :: l)):(∀ b∈l,lessB x.name b.name=true)/\RiseB l:=by
 obtain ⟨h1,h2⟩:=h
 exact ⟨λ b hb=>h1 (b.name,fix4 b.t.root) (List.mem_map_of_mem (f:=λ b:Bk=>(b.name,fix4 b.t.root)) hb),h2⟩
theorem delB_perm {k:List UInt8}:∀ {L:List Bk} {b:Bk},getB k L=some b->L.Perm (b :: delB k L)
 | x :: l,b,h=>by
  simp only [getB] at h
  simp only [delB]
  split at h
  ·rename_i e
   cases h
   rw [if_pos e]
  ·rename_i e
   rw [if_neg e]
   exact ((delB_perm h).cons x).trans (List.Perm.swap ..)
theorem insB_perm {b':Bk}:∀ {L:List Bk},RiseB L->(insB b' L).Perm (b' :: delB b'.name L)
 | [],_=>List.Perm.refl _
 | x :: l,h=>by
  obtain ⟨h1,h2⟩:=h.tail
  simp only [insB,delB]
  split
  ·rename_i e
   rw [if_neg (lessB_ne e)]
   exact ((insB_perm h2).cons x).trans (List.Perm.swap ..)
  ·split
   ·rename_i e e2
    rw [if_neg (lessB_ne e2).symm]
    have:delB b'.name l=l:=by
     have hno:∀ b∈l,b.name≠b'.name:=λ b hb=>(lessB_ne (lessB_trans e2 (h1 b hb))).symm
     clear h h1 h2
     induction l with
     | nil=>rfl
     | cons y l ih =>
      simp only [delB]
      rw [if_neg (hno y (List.mem_cons_self ..)),ih λ b hb=>hno b (List.mem_cons_of_mem _ hb)]
    rw [this]
   ·rename_i e e2
    have hx:x.name=b'.name:=by
     rcases lessB_total x.name b'.name with h | h | h
     ·exact absurd h e
     ·exact h
     ·exact absurd h e2
    rw [if_pos hx]
theorem delB_none {k:List UInt8}:∀ {L:List Bk},getB k L=none->delB k L=L
 | [],_=>rfl
 | x :: l,h=>by
  simp only [getB] at h
  simp only [delB]
  split at h
  ·cases h
  ·rename_i e
   rw [if_neg e,delB_none h]
structure Forest (M:Store) (root:Int) (rids:List Int) (rn:Nat) (L:List Bk) (cnt:Nat):Prop where
 fam:Fam M (⟨root,topP L,rids,rn⟩ :: L.map (·.t)) cnt
 num:∀ b∈L,0<=b.t.root/\b.t.root<4294967296
theorem Forest.rise {M:Store} {root:Int} {rids:List Int} {rn:Nat} {L:List Bk} {cnt:Nat} (h:Forest M root rids rn L cnt):RiseB L:=by
 obtain ⟨⟨k,S,h1,_⟩,_,_⟩:=h.fam.each _ (List.mem_cons_self ..)
 exact h1.tree.rising
theorem Forest.front {M:Store} {root:Int} {rids:List Int} {rn:Nat} {L:List Bk} {cnt:Nat} (h:Forest M root rids rn L cnt) {k:List UInt8} {b:Bk} (hb:getB k L=some b):Fam M (b.t :: ⟨root,topP L,rids,rn⟩ :: (delB k L).map (·.t)) cnt:=
 h.fam.perm ((((delB_perm hb).map (·.t)).cons _).trans (List.Perm.swap ..))
theorem Forest.back {M:Store} {root:Int} {rids:List Int} {rn:Nat} {L:List Bk} {cnt:Nat} {b':Bk} (hr:RiseB L) (hn:∀ b∈L,0<=b.t.root/\b.t.root<4294967296) (h0:0<=b'.t.root/\b'.t.root<4294967296)
  (h:Fam M (⟨root,insP b'.name (fix4 b'.t.root) (topP L),rids,rn⟩ :: b'.t :: (delB b'.name L).map (·.t)) cnt):Forest M root rids rn (insB b' L) cnt:=by
 have hp:=insB_perm (b':=b') hr
 refine ⟨?_,λ b hb=>?_⟩
 ·rw [topP_ins]
  exact h.perm ((hp.map (·.t)).symm.cons _)
 ·rcases List.mem_cons.1 (hp.mem_iff.1 hb) with rfl | hb
  ·exact h0
  ·have:∀ {l:List Bk},b∈delB b'.name l->b∈l:=by
    intro l
    induction l with
    | nil=>exact λ h=>h
    | cons x l ih =>
     simp only [delB]
     split
     ·exact List.mem_cons_of_mem _
     ·intro h
      rcases List.mem_cons.1 h with rfl | h
      ·exact List.mem_cons_self ..
      ·exact List.mem_cons_of_mem _ (ih h)
   exact hn b (this hb)
theorem delB_mem {k:List UInt8} {b:Bk}:∀ {l:List Bk},b∈delB k l->b∈l:=by
 intro l
 induction l with
 | nil=>exact λ h=>h
 | cons x l ih =>
  simp only [delB]
  split
  ·exact List.mem_cons_of_mem _
  ·intro h
   rcases List.mem_cons.1 h with rfl | h
   ·exact List.mem_cons_self ..
   ·exact List.mem_cons_of_mem _ (ih h)
theorem getP_of {k v:List UInt8}:∀ {l:List Pair},Rising l->(k,v)∈l->getP k l=some v
 | q :: l,h,hm=>by
  obtain ⟨h1,h2⟩:=h
  simp only [getP]
  rcases List.mem_cons.1 hm with rfl | hm
  ·simp
  ·rw [if_neg (lessB_ne (h1 _ hm))]
   exact getP_of h2 hm
-- how many pages a tree can have, by its pairs
theorem seg_level {M:Store} {d k:Nat} {hi:Option Bytes} {l:Nat} (hT:∀ id lo hi ps ids,TreeAt M d k id lo hi ps ids->ps≠[]->meas (λ _=>1) (λ _=>1) M k id l<=ps.length) :
  ∀ {L:List Child} {ps:List Pair} {ids:List Int},Seg (Sub M d k) L hi ps ids->measL (λ _=>1) (λ _=>1) M k L l<=ps.length
 | [],_,_,⟨h1,_⟩=>by subst h1;exact Nat.le_refl _
 | c :: L,_,_,⟨p1,p2,i1,i2,h1,h2,h3,h4⟩=>by
  subst h1
  have q1:=hT _ _ _ _ _ h3.1 h3.2
  have q2:=seg_level hT h4
  show meas (λ _=>1) (λ _=>1) M k c.page l+measL (λ _=>1) (λ _=>1) M k L l<=_
  rw [List.length_append]
  omega
theorem tree_level {M:Store} {d:Nat}:∀ {k:Nat} {id:Int} {lo:Bytes} {hi:Option Bytes} {ps:List Pair} {ids:List Int},TreeAt M d k id lo hi ps ids->ps≠[]->∀ l,l<=k->meas (λ _=>1) (λ _=>1) M k id l<=ps.length
 | 0,id,lo,hi,ps,ids,h,hne,l,hl=>by
  have:=List.length_pos_iff.2 hne
  have e:l=0:=by omega
  subst e
  rw [meas0]
  exact this
 | k+1,id,lo,hi,ps,ids,⟨c,L,i2,h1,h2,h3,h4,h5,h6,h7⟩,hne,l,hl=>by
  have hm:=meas_up (f:=λ _=>1) (g:=λ _=>1) (k:=k) h1 h2 h3
  by_cases hlk:l=k+1
  ·subst hlk
   rw [hm.1]
   exact List.length_pos_iff.2 hne
  ·rw [hm.2 l (by omega),measL_head]
   exact seg_level (λ id lo hi ps ids h hne=>tree_level h hne l (by omega)) h6
theorem lsum_const (f:Nat->Nat) (c:Nat):∀ n,(∀ l,l<n->f l<=c)->lsum f n<=n*c
 | 0,_=>by simp [lsum]
 | n+1,h=>by
  have h1:=lsum_const f c n λ l hl=>h l (by omega)
  have h2:=h n (by omega)
  simp only [lsum]
  rw [Nat.succ_mul]
  omega
theorem Hist.few {M:Store} {k:Nat} {root:Int} {S:Nat->Nat} {n:Nat} (h:Hist M k root S n):k<=n:=by
 have h0:=h.pot0
 have hl:∀ l,S (l+1)=0\/S (l+1)+(l+1)<=n:=by
  intro l
  induction l with
  | zero =>
   have h1:=h.potl 0
   simp only [Nat.zero_add] at h1 ⊢
   omega
  | succ l ih =>
   have h1:=h.potl (l+1)
   omega
 apply Decidable.byContradiction
 intro hk
 have ht:=h.top n (by omega)
 cases n with
 | zero=>omega
 | succ m=>have:=hl m;omega
def ndW (n:Nat) (ps:List Pair):Nat:=240*(if ps.length<=1 then 1 else min n 17*ps.length+1)+sumV ps+239*ps.length
def ndN (n:Nat) (ps:List Pair):Nat:=240*(19+9776*n / 2924)+sumV ps+239*ps.length
def ndP (n:Nat) (ps:List Pair):Nat:=min (ndW n ps) (ndN n ps)
theorem ndP_W (n:Nat) (ps:List Pair):ndP n ps<=ndW n ps:=Nat.min_le_left _ _
theorem ndP_N (n:Nat) (ps:List Pair):ndP n ps<=ndN n ps:=Nat.min_le_right _ _
theorem lsum_succ (S:Nat->Nat):∀ m,lsum S (m+1)=S 0+lsum (λ l=>S (l+1)) m
 | 0=>by simp [lsum]
 | m+1=>by rw [lsum,lsum_succ S m];simp only [lsum];omega
theorem lsum_pot {S:Nat->Nat} (h:∀ l,94*S (l+1)<=51*S l):∀ m,94*lsum (λ l=>S (l+1)) m<=51*lsum S m
 | 0=>by simp [lsum]
 | m+1=>by have:=h m;have:=lsum_pot h m;simp only [lsum];omega
theorem meas_top {M:Store} {d:Nat}:∀ {k:Nat} {id:Int} {lo:Bytes} {hi:Option Bytes} {ps:List Pair} {ids:List Int},TreeAt M d k id lo hi ps ids->meas (λ _=>1) (λ _=>1) M k id k=1
 | 0,_,_,_,_,_,_=>by rw [meas0]
 | k+1,_,_,_,_,_,⟨c,L,i2,h1,h2,h3,h4,h5,h6,h7⟩=>by
  have hm:=meas_up (f:=λ _=>1) (g:=λ _=>1) (k:=k) h1 h2 h3
  rw [hm.1]
theorem TreeH.needN {M:Store} {root:Int} {ps:List Pair} {ids:List Int} {n:Nat} (h:TreeH M root ps ids n) (hn:n<=20000):240*ids.length<=ndN n ps:=by
 obtain ⟨⟨k,S,h1,h2⟩,_,_⟩:=h
 have hk:k<=17:=h2.high17 hn
 have hl:=tree_pages h1.tree
 have h0:=h2.pot0
 have hc:lsum (λ l=>meas (λ _=>1) (λ _=>1) M k root l) (k+1)<=lsum (λ l=>1+S l) (k+1):=lsum_le λ l _=>h2.cnt l
 rw [lsum_add (λ _=>1) S] at hc
 have h1c:=lsum_const (λ _=>1) 1 (k+1) λ _ _=>Nat.le_refl _
 have hs:=lsum_succ S k
 have hp:=lsum_pot (S:=S) (λ l=>by have:=h2.potl l;omega) k
 have hm:lsum S k<=lsum S (k+1):=Nat.le_add_right _ _
 unfold ndN
 have hdiv:lsum S (k+1)<=9776*n / 2924:=by
  rw [Nat.le_div_iff_mul_le (by omega)]
  omega
 omega
theorem TreeH.needW {M:Store} {root:Int} {ps:List Pair} {ids:List Int} {n:Nat} (h:TreeH M root ps ids n) (hn:n<=20000):240*ids.length<=ndW n ps:=by
 obtain ⟨⟨k,S,h1,h2⟩,_,_⟩:=h
 have hk:k<=min n 17:=by have:=h2.high17 hn;have:=h2.few;omega
 have hl:=tree_pages h1.tree
 have htop:=meas_top h1.tree
 unfold ndW
 split
 ·rename_i hp
  obtain rfl:=h1.low hp
  simp only [lsum,Nat.zero_add] at hl
  rw [htop] at hl
  omega
 ·rename_i hp
  have hne:ps≠[]:=by
   intro e
   subst e
   simp at hp
  have hc:lsum (λ l=>meas (λ _=>1) (λ _=>1) M k root l) k<=k*ps.length:=lsum_const _ _ _ λ l hl=>tree_level h1.tree hne l (by omega)
  have hc2:k*ps.length<=min n 17*ps.length:=Nat.mul_le_mul_right _ hk
  simp only [lsum] at hl
  rw [htop] at hl
  omega
theorem TreeH.need {M:Store} {root:Int} {ps:List Pair} {ids:List Int} {n:Nat} (h:TreeH M root ps ids n) (hn:n<=20000):240*ids.length<=ndP n ps:=by
 have h1:=h.needW hn
 have h2:=h.needN hn
 unfold ndP
 omega
def ndT:List Tr->Nat
 | []=>0
 | t :: T=>ndP t.n t.ps+ndT T
theorem Fam.need {M:Store}:∀ {T:List Tr} {cnt:Nat},Fam M T cnt->(∀ t∈T,t.n<=20000)->240*cnt<=ndT T
 | [],cnt,h,_=>by rw [h.cnt];simp [idsT]
 | t :: T,cnt,h,hn=>by
  have h1:=(h.each t (List.mem_cons_self ..)).need (hn t (List.mem_cons_self ..))
  have hT:Fam M T (idsT T).length:=by
   have ho:=h.once
   rw [idsT_cons,List.nodup_append] at ho
   exact ⟨λ x hx=>h.each x (List.mem_cons_of_mem _ hx),ho.2.1,rfl⟩
  have h2:=Fam.need hT λ x hx=>hn x (List.mem_cons_of_mem _ hx)
  have h3:=h.cnt
  rw [idsT_cons,List.length_append] at h3
  simp only [ndT]
  omega
structure Roomy (most:Nat) (rn:Nat) (L:List Bk):Prop where
 top:rn<=20000
 each:∀ b∈L,b.t.n<=20000
 room:ndT (⟨0,topP L,[],rn⟩ :: L.map (·.t)) / 240+51<=most
theorem Forest.room {M:Store} {root:Int} {rids:List Int} {rn:Nat} {L:List Bk} {cnt most:Nat} (h:Forest M root rids rn L cnt) (hr:Roomy most rn L):cnt+51<=most:=by
 have:=h.fam.need λ t ht=>by
  rcases List.mem_cons.1 ht with rfl | ht
  ·exact hr.top
  ·obtain ⟨b,hb,rfl⟩:=List.mem_map.1 ht
   exact hr.each b hb
 have h2:=hr.room
 simp only [ndT] at this h2
 omega
def AfterB (most rn:Nat) (L:List Bk) (name:List UInt8) (ps':List Pair) (n':Nat):Prop:=
 ndT (⟨0,topP L,[],rn⟩ :: L.map (·.t)) / 240+98<=most\/n'<=20000/\ndT (⟨0,topP L,[],rn⟩ :: ⟨0,ps',[],n'⟩ :: (delB name L).map (·.t)) / 240+50<=most
theorem AfterB.room {M M2:Store} {root r:Int} {rids ids2:List Int} {rn n' cnt cnt2 most:Nat} {L:List Bk} {name:List UInt8} {ps':List Pair} (ha:AfterB most rn L name ps' n') (h:Forest M root rids rn L cnt) (hr:Roomy most rn L) (hc:cnt2<=cnt+48) (h2:Fam M2 (⟨root,topP L,rids,rn⟩ :: ⟨r,ps',ids2,n'⟩ :: (delB name L).map (·.t)) cnt2):cnt2+50<=most:=by
 rcases ha with ha | ⟨hn,ha⟩
 ·have:=h.fam.need λ t ht=>by
   rcases List.mem_cons.1 ht with rfl | ht
   ·exact hr.top
   ·obtain ⟨b,hb,rfl⟩:=List.mem_map.1 ht
    exact hr.each b hb
  simp only [ndT] at this ha
  omega
 ·have:=h2.need λ t ht=>by
   rcases List.mem_cons.1 ht with rfl | ht
   ·exact hr.top
   ·rcases List.mem_cons.1 ht with rfl | ht
    ·exact hn
    ·obtain ⟨b,hb,rfl⟩:=List.mem_map.1 ht
     exact hr.each b (delB_mem hb)
  simp only [ndT] at this ha
  omega
theorem leFix:∀ v:Nat,v<4294967296->v % 256+256*(v / 256 % 256+256*(v / 65536 % 256+256*(v / 16777216 % 256+256*0)))=v:=by
 intro v hv
 omega
def goodKV (k v:List UInt8):Bool:=decide (1<=k.length) && decide (k.length<=40) && decide (v.length<=2000)
theorem goodKV_of {k v:List UInt8} (h:goodKV k v=true):1<=k.length/\k.length<=40/\v.length<=2000:=by
 unfold goodKV at h
 simp only [Bool.and_eq_true,decide_eq_true_eq] at h
 exact ⟨h.1.1,h.1.2,h.2⟩
end Go.Ev
namespace Go.Ev
open Go.Proofs Go.RowKit
def leNat:List UInt8->Nat
 | []=>0
 | b :: l=>b.toNat+256*leNat l
theorem size_list (s:ByteArray):s.data.toList.length=s.size:=by rw [Array.length_toList];rfl
theorem leNat_lt:∀ l:List UInt8,leNat l<2 ^ (8*l.length)
 | []=>by decide
 | b :: l=>by
  have h1:=leNat_lt l
  have h2:=b.toNat_lt
  have e:2 ^ (8*(b :: l).length)=256*2 ^ (8*l.length):=by
   rw [List.length_cons,show 8*(l.length+1)=8+8*l.length by omega,Nat.pow_add]
  rw [e]
  show b.toNat+256*leNat l<_
  omega
theorem leNat_snoc:∀ (l:List UInt8) (x:UInt8),leNat (l++[x])=leNat l+x.toNat*2 ^ (8*l.length)
 | [],x=>by simp [leNat]
 | b :: l,x=>by
  have e:2 ^ (8*(b :: l).length)=256*2 ^ (8*l.length):=by
   rw [List.length_cons,show 8*(l.length+1)=8+8*l.length by omega,Nat.pow_add]
  rw [e]
  show b.toNat+256*leNat (l++[x])=b.toNat+256*leNat l+_
  rw [leNat_snoc l x,Nat.mul_add,Nat.mul_left_comm 256]
  omega
theorem or_add (a b k:Nat) (h:a<2 ^ k):a ||| b*2 ^ k=a+b*2 ^ k:=by
 rw [Nat.or_comm,Nat.mul_comm b,<- Nat.two_pow_add_eq_or_of_lt h,Nat.add_comm]
theorem wrap64_nat {a:Nat} (h:a<9223372036854775808):wrap64 (a:Int)=a:=by unfold wrap64;omega
theorem or_i64 (a b:Nat) (ha:a<9223372036854775808) (hb:b<9223372036854775808):bits .or .i64 (a:Int) (b:Int)=((a ||| b:Nat):Int):=by
 have hx:a ||| b<2 ^ 63:=Nat.or_lt_two_pow (by omega) (by omega)
 have h1:(BitVec.ofInt 64 (a:Int)).toNat=a:=by
  rw [BitVec.ofInt_natCast,BitVec.toNat_ofNat];exact Nat.mod_eq_of_lt (by omega)
 have h2:(BitVec.ofInt 64 (b:Int)).toNat=b:=by
  rw [BitVec.ofInt_natCast,BitVec.toNat_ofNat];exact Nat.mod_eq_of_lt (by omega)
 show IntKind.i64.wrap ((BitVec.ofInt 64 (a:Int) ||| BitVec.ofInt 64 (b:Int)).toNat:Int)=_
 rw [BitVec.toNat_or,h1,h2]
 rw [IntKind.wrap_i64]
 omega
theorem or_byte (l:List UInt8) (x:UInt8) (hl:l.length<=6):bits .or .i64 (leNat l:Nat) (wrap64 (wrap64 (x.toNat:Int)*2 ^ (8*l.length)))=(leNat (l++[x]):Nat):=by
 have h1:=leNat_lt l
 have h2:=x.toNat_lt
 have hp:2 ^ (8*l.length)<=2 ^ 48:=Nat.pow_le_pow_right (by decide) (by omega)
 have h3:x.toNat*2 ^ (8*l.length)<9223372036854775808:=by
  have:x.toNat*2 ^ (8*l.length)<=255*2 ^ 48:=Nat.mul_le_mul (by omega) hp
  omega
 have e:(wrap64 (x.toNat:Int)*2 ^ (8*l.length):Int)=((x.toNat*2 ^ (8*l.length):Nat):Int):=by
  rw [wrap64_nat (by omega)]
  simp
 rw [e,wrap64_nat h3,or_i64 _ _ (by omega) h3,or_add _ _ _ h1,leNat_snoc]
theorem leNat_fix4 (v:Int) (h0:0<=v) (h1:v<4294967296):leNat ((⟨(fix4 v).toArray⟩:ByteArray).data.toList.take 4)=v.toNat:=by
 have e:(⟨(fix4 v).toArray⟩:ByteArray).data.toList.take 4=fix4 v:=by
  show (fix4 v).take 4=fix4 v
  exact List.take_of_length_le (by rw [fix4_len];exact Nat.le_refl _)
 rw [e]
 have hb:∀ x:Nat,(UInt8.ofNat (x % 256)).toNat=x % 256:=λ x=>UInt8.toNat_ofNat_of_lt' (Nat.mod_lt _ (by decide))
 have e2:fix4 v=[UInt8.ofNat (v.toNat % 256),UInt8.ofNat (v.toNat / 256 % 256),UInt8.ofNat (v.toNat / 65536 % 256),UInt8.ofNat (v.toNat / 16777216 % 256)]:=by
  unfold fix4
  simp [List.range_succ]
 rw [e2]
 simp only [leNat,hb]
 exact leFix v.toNat (by omega)
theorem unfix4_ok (s:ByteArray) (hs:s.size=4) (w:World) :
  Calls Tryz.prog 82 #[.string s,.int .i64 0,.int .i64 4] w λ e w'=>e=.returned (.tuple #[.int .i64 (leNat (s.data.toList.take 4):Nat),.int .i64 0])/\w=w':=by
 have hsz:=size_list s
 rw [hs] at hsz
 go_enter Tryz.func82,Tryz.ntmps82
 go_wp2_with (fail)
 go_loopg [8,35] 4 (λ gk s8 s35 wr=>∃ j:Nat,s8=.int .i64 (leNat (s.data.toList.take j):Nat)/\s35=.int .i64 (j:Int)/\j+gk=4/\wr=w)
 case atStart=>exact ⟨0,rfl,rfl,rfl,rfl⟩
 case round =>
  obtain ⟨j,rfl,rfl,hj,rfl⟩:=hrel
  by_cases h4:j<4
  ·have h4':(j:Int)<4:=by omega
   have hj0:(0:Int)<=(j:Int):=by omega
   have hw1:IntKind.i64.wrap ((j:Int)+1)=(j:Int)+1:=IntWalk.i64_in _ (by omega)
   have hlt:j<s.data.toList.length:=by omega
   have hjs:j<s.size:=by omega
   have ht:s.data.toList.take (j+1)=s.data.toList.take j++[s[j]]:=by
    rw [List.take_add_one,List.getElem?_eq_getElem hlt]
    rfl
   have hlen:(s.data.toList.take j).length=j:=by rw [List.length_take];omega
   have hb:=or_byte (s.data.toList.take j) s[j] (by omega)
   rw [hlen,<- ht] at hb
   have HB:=Hdz hb
   clear hb ht hlen hsz
   go_wp2_with (fail)
   rw [HB.out]
   go_roundg (gk-1)
   case measure=>omega
   case rel=>exact ⟨j+1,rfl,by simp,by omega,rfl⟩
  ·have h4':¬ (j:Int)<4:=by omega
   have e:j=4:=by omega
   subst e
   go_wp2_with (fail)
   refine bodyPost_ret (v:=.tuple #[.int .i64 (leNat (s.data.toList.take 4):Nat),.int .i64 0]) (by simp [results,Tryz.results82,go_sem]) rfl ?_
   exact ⟨rfl,rfl⟩
end Go.Ev
