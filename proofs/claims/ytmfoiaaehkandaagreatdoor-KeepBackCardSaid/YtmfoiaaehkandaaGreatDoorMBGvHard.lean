/-
  Texts of this claim.
-/
import Derived.Test.YtmfoiaaehkandaaGreatDoorMBGvEach
import Derived.Test.YtmfoiaaehkandaaGreatDoorMBGwPut
import Derived.Deep.Slices
import Derived.Ground.SlgmProg
import Derived.Lib.SliceRun
import Derived.Lib.SmallJoins
import Derived.OwnWalkIn
import Derived.Shelf.SortM.Plain
import Derived.Shelf.SortM.SortNone
import Derived.Tactics
set_option linter.unusedVariables false
set_option linter.unusedSimpArgs false
namespace Go.Ev
def dig:Nat->Nat->List UInt8
 | 0,_=>[]
 | k+1,n=>dig k (n / 10)++[UInt8.ofNat (48+n % 10)]
theorem dig_len:∀ k n,(dig k n).length=k
 | 0,_=>rfl
 | k+1,n=>by simp only [dig,List.length_append,dig_len k,List.length_cons,List.length_nil]
theorem dig_zero:∀ k,dig k 0=List.replicate k 48
 | 0=>rfl
 | k+1=>by
  simp only [dig,Nat.zero_div,dig_zero k,Nat.zero_mod,Nat.add_zero]
  rw [List.replicate_succ']
  rfl
def decB (n:Nat):List UInt8:=if n<10 then [UInt8.ofNat (48+n)] else decB (n / 10)++[UInt8.ofNat (48+n % 10)]
termination_by n
theorem decB_small {n:Nat} (h:n<10):decB n=[UInt8.ofNat (48+n)]:=by rw [decB,if_pos h]
theorem decB_big {n:Nat} (h:¬ n<10):decB n=decB (n / 10)++[UInt8.ofNat (48+n % 10)]:=by rw [decB,if_neg h]
theorem dec_dig:∀ k n,n<10 ^ (k+1)->List.replicate (k+1-(decB n).length) 48++decB n=dig (k+1) n/\(decB n).length<=k+1
 | 0,n,h=>by
  have h':n<10:=by simpa using h
  rw [decB_small h']
  simp [dig,Nat.mod_eq_of_lt h']
 | k+1,n,h=>by
  by_cases h':n<10
  ·rw [decB_small h']
   have e:n / 10=0:=by omega
   have e2:n % 10=n:=by omega
   refine ⟨?_,by simp⟩
   rw [show dig (k+1+1) n=dig (k+1) (n / 10)++[UInt8.ofNat (48+n % 10)] from rfl,e,e2,dig_zero]
   rfl
  ·have h2:n / 10<10 ^ (k+1):=by
    rw [Nat.pow_succ] at h
    omega
   obtain ⟨i1,i2⟩:=dec_dig k (n / 10) h2
   rw [decB_big h']
   refine ⟨?_,by rw [List.length_append,List.length_cons,List.length_nil];omega⟩
   rw [show dig (k+1+1) n=dig (k+1) (n / 10)++[UInt8.ofNat (48+n % 10)] from rfl,<- i1,List.length_append,List.length_cons,List.length_nil,<- List.append_assoc]
   congr 3
   omega
theorem lessB_app:∀ {a b:List UInt8} (c d:UInt8),a.length=b.length->lessB (a++[c]) (b++[d])=(lessB a b || (a==b && decide (c<d)))
 | [],[],c,d,_=>by simp [lessB,Op.bytesLess]
 | x :: a,y :: b,c,d,h=>by
  have ih:=lessB_app (a:=a) (b:=b) c d (by simpa using h)
  simp only [lessB] at ih ⊢
  simp only [List.cons_append,Op.bytesLess,ih]
  by_cases h1:x<y
  ·simp [h1]
  ·by_cases h2:x=y
   ·subst h2
    simp
   ·have e1:(x==y)=false:=beq_eq_false_iff_ne.2 h2
    have e2:(x :: a==y :: b)=false:=beq_eq_false_iff_ne.2 λ e=>h2 (List.cons.inj e).1
    rw [e1,e2]
    simp
theorem dig_less:∀ {k a b:Nat},a<b->b<10 ^ k->lessB (dig k a) (dig k b)=true
 | 0,a,b,h,hb=>by simp at hb;omega
 | k+1,a,b,h,hb=>by
  rw [show dig (k+1) a=dig k (a / 10)++[UInt8.ofNat (48+a % 10)] from rfl,show dig (k+1) b=dig k (b / 10)++[UInt8.ofNat (48+b % 10)] from rfl,lessB_app _ _ (by rw [dig_len,dig_len])]
  have h2:b / 10<10 ^ k:=by rw [Nat.pow_succ] at hb;omega
  by_cases hq:a / 10<b / 10
  ·rw [dig_less hq h2]
   rfl
  ·have e:a / 10=b / 10:=by omega
   have h3:a % 10<b % 10:=by omega
   have h4:UInt8.ofNat (48+a % 10)<UInt8.ofNat (48+b % 10):=by
    rw [UInt8.lt_iff_toNat_lt,UInt8.toNat_ofNat_of_lt' (by show 48+a % 10<256;omega),UInt8.toNat_ofNat_of_lt' (by show 48+b % 10<256;omega)]
    omega
   rw [e,lessB_irrefl,decide_eq_true h4]
   simp
theorem dig_inj {k a b:Nat} (ha:a<10 ^ k) (hb:b<10 ^ k) (h:dig k a=dig k b):a=b:=by
 rcases Nat.lt_trichotomy a b with h1 | h1 | h1
 ·exact absurd h (lessB_ne (dig_less h1 hb))
 ·exact h1
 ·exact absurd h.symm (lessB_ne (dig_less h1 ha))
open Go.Proofs Go.RowKit
theorem slice_arr21 (W:World) (b k:Nat) (hk:k<21) (v:Int) (hv:v=k) :
  (Instr.sliceAt 228 (.pointer (some ⟨b,0,none⟩)) (some (.int .i64 v)) none none).run Tryz.prog W=.ok (.slice (some ⟨b,k,none⟩) (21-k) (21-k)) W:=by
 subst hv
 have h21:Tryz.prog.arrayLen 228=21:=by kernel_rfl
 have hel:Tryz.prog.elem 228=5:=by kernel_rfl
 have ht:Tryz.prog.underlying 228=some (.array (Tryz.prog.arrayLen 228) (Tryz.prog.elem 228)):=by kernel_rfl
 rw [run_sliceAt_array_l W 228 ⟨b,0,none⟩ ht .i64 (k:Int) (by omega) (by rw [h21];omega),hel,Tryz.sizeOf5,h21]
 have hn:¬ 21=k:=by omega
 simp [slicedAt,Addr.add,hn]
 omega
def DArr (arr:Array Value) (i:Nat) (s:Bytes):Prop:=arr.size=21/\(∀ j,j<21->∃ b:UInt8,arr[j]? = some (.int .u8 b.toNat))/\i+s.length=21/\∀ j (hj:j<s.length),arr[i+j]? = some (.int .u8 (s[j].toNat:Int))
theorem DArr.zero:DArr #[.int .u8 0,.int .u8 0,.int .u8 0,.int .u8 0,.int .u8 0,.int .u8 0,.int .u8 0,.int .u8 0,.int .u8 0,.int .u8 0,.int .u8 0,.int .u8 0,.int .u8 0,.int .u8 0,.int .u8 0,.int .u8 0,.int .u8 0,.int .u8 0,.int .u8 0,.int .u8 0,.int .u8 0] 21 []:=by
 refine ⟨rfl,λ j hj=>⟨0,?_⟩,rfl,λ j hj=>absurd hj (Nat.not_lt_zero _)⟩
 have h:j=0\/j=1\/j=2\/j=3\/j=4\/j=5\/j=6\/j=7\/j=8\/j=9\/j=10\/j=11\/j=12\/j=13\/j=14\/j=15\/j=16\/j=17\/j=18\/j=19\/j=20:=by omega
 rcases h with rfl | rfl | rfl | rfl | rfl | rfl | rfl | rfl | rfl | rfl | rfl | rfl | rfl | rfl | rfl | rfl | rfl | rfl | rfl | rfl | rfl<;>rfl
theorem DArr.set {arr:Array Value} {i:Nat} {s:Bytes} (h:DArr arr (i+1) s) (q:Nat):DArr (arr.setIfInBounds i (Value.int IntKind.u8 (48+(q:Int) % 10))) i (UInt8.ofNat (48+q % 10) :: s):=by
 obtain ⟨h1,h2,h3,h4⟩:=h
 have hc:((UInt8.ofNat (48+q % 10)).toNat:Int)=48+(q:Int) % 10:=by
  rw [UInt8.toNat_ofNat_of_lt' (by show 48+q % 10<256;omega)]
  omega
 refine ⟨by simp [h1],λ j hj=>?_,by rw [List.length_cons];omega,λ j hj=>?_⟩
 ·rw [Array.getElem?_setIfInBounds]
  split
  ·rw [if_pos (by rw [h1];omega)]
   exact ⟨_,by rw [hc]⟩
  ·exact h2 j hj
 ·cases j with
  | zero =>
   rw [Nat.add_zero,Array.getElem?_setIfInBounds,if_pos rfl,if_pos (by rw [h1];omega)]
   simp only [List.getElem_cons_zero]
   rw [hc]
  | succ j =>
   rw [Array.getElem?_setIfInBounds,if_neg (by omega)]
   have:=h4 j (by simpa using hj)
   rw [show i+(j+1)=i+1+j by omega,this]
   rfl
theorem DArr.text {arr:Array Value} {i:Nat} {s:Bytes} (h:DArr arr i s) (w:World) (hi:i<21) :
  (convert 159 9 (.slice (some ⟨w.heap.size,i,none⟩) (21-i) (21-i))).run Tryz.prog (w.alloc (.cells arr 228))=.ok (strV s) (w.alloc (.cells arr 228)):=by
 obtain ⟨h1,h2,h3,h4⟩:=h
 have hl:s.length=21-i:=by omega
 have:=bytes_exact (w.alloc (.cells arr 228)) w.heap.size i (21-i) (21-i) (λ k=>s.getD k 0) (λ j hj=>by
  rw [World.cell?_alloc_at arr _ w.heap.size (i+j) rfl,h4 j (by omega)]
  simp [List.getElem?_eq_getElem (show j<s.length by omega)])
 have e:(List.range (21-i)).map (λ k=>s.getD k 0)=s:=by
  apply List.ext_getElem?
  intro k
  by_cases hk:k<21-i
  ·simp [hk,List.getElem?_eq_getElem (show k<s.length by omega)]
  ·simp [hk,List.getElem?_eq_none (show s.length<=k by omega)]
 rw [this,e]
theorem int64_eq2 {k:IntKind} {a b:Int} (h:a=b):Value.int k a=Value.int k b:=by rw [h]
set_option maxHeartbeats 1000000 in
set_option maxRecDepth 100000 in
theorem digits_ok (v:Nat) (w:World) (h1:v<=99999999) :
  Calls Tryz.prog 87 #[.int .i64 (v:Int)] w λ e w'=>e=.returned (strV (decB v))/\Below w.heap.size w w':=by
 have h0:(0:Int)<=(v:Int):=by omega
 have h0':¬ (v:Int)<0:=by omega
 have h2:(v:Int)<=99999999:=by omega
 have hu:IntKind.u64.wrap (v:Int)=(v:Int):=by rw [IntKind.wrap_u64];omega
 go_enter Tryz.func87,Tryz.ntmps87
 go_wp2
 go_loopw [3,5] (λ u i wr=>∃ (q d:Nat) (arr:Array Value) (s:Bytes),1<=d/\d<=8/\q<10 ^ d/\u=.int .u64 (q:Int)/\i=.int .i64 ((d:Int)+13)/\DArr arr (d+13) s/\decB v=decB q++s/\wr=w.alloc (.cells arr 228)) (λ u _ _=>(RowKit.intOf u).toNat)
 case atStart=>exact ⟨v,8,_,[],by omega,by omega,by omega,rfl,rfl,DArr.zero,by simp,rfl⟩
 case round =>
  obtain ⟨q,d,arr,s,hd1,hd2,hq,rfl,rfl,hb,hdec,rfl⟩:=hrel
  have hb':DArr arr (d+12+1) s:=hb
  obtain ⟨x,hx⟩:=hb.2.1 (d+12) (by omega)
  have hcell:(w.alloc (.cells arr 228)).cell? ⟨w.heap.size,d+12,none⟩=some (.int .u8 x.toNat):=by
   rw [World.cell?_alloc_at arr _ w.heap.size (d+12) rfl];exact hx
  have hfz:(w.alloc (.cells arr 228)).frozen? ⟨w.heap.size,d+12,none⟩=false:=World.frozen?_alloc_at arr _ w.heap.size (d+12) rfl
  have hq64:q<=100000000:=Nat.le_of_lt (Nat.lt_of_lt_of_le hq (by have:=Nat.pow_le_pow_right (show 0<10 by omega) hd2;simpa using this))
  have HQ:=Hdz hq
  have HX:=Hdz hx
  have HB:=Hdz (hb'.set q)
  have HD:=Hdz hdec
  clear hx hq hb hb' hdec
  by_cases hq10:q<10
  ·have hz:(q:Int) / 10=0:=by omega
   have hcv:=HB.out.text w (by omega)
   have hs:decB v=UInt8.ofNat (48+q % 10) :: s:=by rw [HD.out,decB_small hq10,Nat.mod_eq_of_lt hq10];rfl
   obtain ⟨c,hc⟩:=nmz (UInt8.ofNat (48+q % 10))
   rw [hc] at hcv hs
   have HS:=Hdz hs
   have e9:21-(d+12)=9-d:=by omega
   rw [e9] at hcv
   clear hs hc hq10
   go_wp2
   have HSL:=slice_arr21 (w.alloc (.cells (arr.setIfInBounds (d+12) (Value.int IntKind.u8 (48 + ↑q % 10))) 228)) w.heap.size (d+12) (by omega) ((d:Int)+13-1) (by omega)
   rw [e9] at HSL
   rw [HSL]
   go_wp2
   go_ret
   refine ⟨?_,(Below.refl _ _).alloc (Nat.le_refl _) _⟩
   rw [HS.out]
   rfl
  ·have hz:((q:Int) / 10==0)=false:=by
    rw [beq_eq_false_iff_ne]
    omega
   have HQ10:=Hdz hq10
   clear hq10
   go_wp2
   have hq10:=HQ10.out
   refine ⟨⟨q / 10,d-1,_,UInt8.ofNat (48+q % 10) :: s,?_,by omega,?_,rfl,int64_eq2 (by omega),(by rw [show d-1+13=d+12 by omega];exact HB.out),?_,rfl⟩,?_⟩
   ·rcases Nat.lt_or_ge d 2 with h3 | h3
    ·have:d=1:=by omega
     subst this
     have:q<10:=by simpa using HQ.out
     omega
    ·omega
   ·have:=HQ.out
    obtain ⟨m,rfl⟩:∃ m,d=m+1:=⟨d-1,by omega⟩
    rw [Nat.pow_succ] at this
    simp only [Nat.add_sub_cancel]
    omega
   ·rw [HD.out,decB_big hq10,List.append_assoc]
    rfl
   ·simp only [RowKit.intOf]
    omega
theorem rep_zeros (k:Nat) (w:World) (hk:k<=8):Calls Tryz.prog 88 #[.string ⟨#[48]⟩,.int .i64 (k:Int)] w λ e w'=>e=.returned (strV (List.replicate k 48))/\Below w.heap.size w w':=by
 have h:=Any.strings_Repeat Tryz.repeatL rX ⟨#[48]⟩ k w (by omega) (by show 1*k<=_;omega)
 have e:∀ k,k<=8->Lib.repeatL ([48]:Bytes) k=List.replicate k 48:=by decide
 have e2:Lib.repeatL (ByteArray.mk #[48]).data.toList k=List.replicate k 48:=e k hk
 rw [e2] at h
 exact h
end Go.Ev
namespace Go.Ev
open Go.Lib
theorem half_at (f:Nat->Nat) (n S g:Nat) (h0:f 0=0) (hn:f n=S) (hs:∀ j,j<n->f (j+1)<=f j+g) (hm:∀ j,j<=n->f j<=S) (h2:2<=n) :
  ∃ j,1<=j/\j<n/\2*max (f j) (S-f j)<=S+g:=by
 have key:∀ k,k+1<n->(∃ j,1<=j/\j<=k+1/\2*max (f j) (S-f j)<=S+g)\/2*f (k+1)+g<S:=by
  intro k
  induction k with
  | zero =>
   intro hk
   have h1:=hs 0 (by omega)
   have h3:=hm 1 (by omega)
   simp only [Nat.zero_add,h0] at h1 ⊢
   by_cases hc:2*f 1+g<S
   ·exact .inr hc
   ·exact .inl ⟨1,by omega,by omega,by omega⟩
  | succ k ih =>
   intro hk
   rcases ih (by omega) with ⟨j,h1,h3,h4⟩ | h
   ·exact .inl ⟨j,h1,by omega,h4⟩
   ·have h1:=hs (k+1) (by omega)
    have h3:=hm (k+1+1) (by omega)
    by_cases hc:2*f (k+1+1)+g<S
    ·exact .inr hc
    ·exact .inl ⟨k+1+1,by omega,by omega,by omega⟩
 obtain ⟨k,rfl⟩:∃ k,n=k+2:=⟨n-2,by omega⟩
 rcases key k (by omega) with ⟨j,h1,h3,h4⟩ | h
 ·exact ⟨j,h1,by omega,h4⟩
 ·exfalso
  have h1:=hs (k+1) (by omega)
  have h3:=hm (k+1) (by omega)
  rw [hn] at h1
  omega
theorem split_half (f cost:Nat->Nat) (n S g:Nat) (h0:f 0=0) (hn:f n=S) (hs:∀ j,j<n->f (j+1)<=f j+g) (hm:∀ j,j<=n->f j<=S) (h2:2<=n) (hc:∀ j,j<=n->cost j=max (f j) (S-f j)) :
  1<=bestAt cost n/\bestAt cost n<n/\2*cost (bestAt cost n)<=S+g:=by
 obtain ⟨h1,h3,h4⟩:=bestAt_spec cost h2
 obtain ⟨j,q1,q2,q3⟩:=half_at f n S g h0 hn hs hm h2
 refine ⟨h1,h3,?_⟩
 have:=h4 j q1 q2
 rw [hc j (by omega)] at this
 omega
theorem layC_drop (l:List Child) (k:Nat):(layC (l.drop k)).length=(layC l).length-(layC (l.take k)).length:=by
 have:layC l=layC (l.take k)++layC (l.drop k):=by rw [<- layC_append,List.take_append_drop]
 have h:(layC l).length=(layC (l.take k)).length+(layC (l.drop k)).length:=by rw [this,List.length_append]
 omega
theorem costC_half {l:List Child} {g:Nat} (hg:∀ x∈l,x.lay.length<=g) (h2:2<=l.length) :
  1<=bestAt (costC l) l.length/\bestAt (costC l) l.length<l.length/\2*costC l (bestAt (costC l) l.length)<=(layC l).length+g:=by
 refine split_half (λ k=>(layC (l.take k)).length) (costC l) l.length _ g (by simp [layC]) (by simp) (λ j hj=>?_) (λ j _=>layC_le l j) h2 λ j _=>?_
 ·rw [layC_take hj,List.length_append]
  have:=hg l[j] (List.getElem_mem ..)
  omega
 ·unfold costC
  rw [layC_drop]
theorem layI_leF (l:List Item) (k:Nat):(layI (l.take k)).length<=(layI l).length:=by
 have:layI l=layI (l.take k)++layI (l.drop k):=by rw [<- layI_append,List.take_append_drop]
 rw [this,List.length_append]
 omega
theorem layI_drop (l:List Item) (k:Nat):(layI (l.drop k)).length=(layI l).length-(layI (l.take k)).length:=by
 have:layI l=layI (l.take k)++layI (l.drop k):=by rw [<- layI_append,List.take_append_drop]
 have h:(layI l).length=(layI (l.take k)).length+(layI (l.drop k)).length:=by rw [this,List.length_append]
 omega
theorem layI_takeF {l:List Item} {k:Nat} (h:k<l.length):layI (l.take (k+1))=layI (l.take k)++l[k].lay:=by
 rw [List.take_succ_eq_append_getElem h,layI_append]
 simp [layI]
theorem costI_half {l:List Item} {g:Nat} (hg:∀ x∈l,x.lay.length<=g) (h2:2<=l.length) :
  1<=bestAt (costI l) l.length/\bestAt (costI l) l.length<l.length/\2*costI l (bestAt (costI l) l.length)<=(layI l).length+g:=by
 refine split_half (λ k=>(layI (l.take k)).length) (costI l) l.length _ g (by simp [layI]) (by simp) (λ j hj=>?_) (λ j _=>layI_leF l j) h2 λ j _=>?_
 ·rw [layI_takeF hj,List.length_append]
  have:=hg l[j] (List.getElem_mem ..)
  omega
 ·unfold costI
  rw [layI_drop]
theorem Item.lay_right {x:Item} (h:x.right=true):x.lay.length<=104:=by
 obtain ⟨k1,k2⟩:=Item.right_key h
 have e1:=varB_small (n:=x.key.length) (by omega)
 unfold Item.right inB at h
 simp only [Item.lay,textB,List.length_append,e1,boolB]
 by_cases ho:x.over=0
 ·rw [if_pos ho] at h
  simp only [Bool.and_eq_true,decide_eq_true_eq] at h
  have e2:=varB_small (n:=x.val.length) (by omega)
  simp only [ho,bne_self_eq_false,Bool.false_eq_true,if_false,ne_eq,not_true_eq_false,List.length_append,e2,List.length_cons,List.length_nil]
  omega
 ·rw [if_neg ho] at h
  simp only [Bool.and_eq_true,decide_eq_true_eq] at h
  have e2:=varB_len x.over ⟨by omega,by omega⟩
  have e3:=varB_len x.size ⟨by omega,by omega⟩
  have e:(x.over != 0)=true:=by simpa using ho
  simp only [e,if_true,ne_eq,ho,not_false_eq_true,List.length_append,List.length_cons,List.length_nil]
  omega
theorem Child.lay_fit {x:Child} (h:x.fit=true):x.lay.length<=51/\2<=x.lay.length:=by
 obtain ⟨h1,h2,h3⟩:=Child.fit_iff.1 h
 have e1:=varB_small (n:=x.key.length) (by omega)
 have e2:=varB_len x.page ⟨by omega,by omega⟩
 simp only [Child.lay,textB,List.length_append,e1]
 omega
theorem headKey_lay (k:Bytes):∀ L:List Child,(layC (headKey [] L)).length<=(layC (headKey k L)).length
 | []=>Nat.le_refl _
 | c :: L=>by
  simp only [headKey,layC,Child.lay,textB,List.length_append,List.length_nil]
  have h1:=varB_small (n:=0) (by omega)
  have h2:=uvarint_pos (zigzag (k.length:Int))
  simp only [varB] at h1 ⊢
  simp only [Int.ofNat_zero] at h1 ⊢
  omega
theorem headKey_lay' (L:List Child):(layC (headKey [] L)).length<=(layC L).length:=by
 cases L with
 | nil=>exact Nat.le_refl _
 | cons c L=>exact headKey_lay c.key (c :: L)
theorem rightC_len {L:List Child} (h:rightC L=true):(∀ x∈L,x.lay.length<=51):=λ x hx=>(Child.lay_fit (rightC_fit h x hx)).1
theorem rightC_app {a:List Child} {y:Child} {b:List Child} (h:rightC (a++y :: b)=true) (ha:a≠[]):rightC a=true/\y.fit=true/\riseC y.key b=true:=by
 cases a with
 | nil=>exact absurd rfl ha
 | cons x a =>
  rw [List.cons_append,rightC_cons] at h
  rw [rightC_cons]
  have:∀ (k:Bytes) (a:List Child),riseC k (a++y :: b)=true->riseC k a=true/\y.fit=true/\riseC y.key b=true:=by
   intro k a
   induction a generalizing k with
   | nil=>intro h;simp only [List.nil_append,riseC,Bool.and_eq_true] at h;exact ⟨rfl,h.1.1,h.2⟩
   | cons z a ih =>
    intro h
    simp only [List.cons_append,riseC,Bool.and_eq_true] at h ⊢
    obtain ⟨q1,q2,q3⟩:=ih z.key h.2
    exact ⟨⟨h.1,q1⟩,q2,q3⟩
  obtain ⟨q1,q2,q3⟩:=this [] a h.2.2
  exact ⟨⟨h.1,h.2.1,q1⟩,q2,q3⟩
theorem riseC_nil {k:Bytes} {L:List Child} (h:riseC k L=true):riseC [] L=true:=by
 cases L with
 | nil=>rfl
 | cons x L =>
  simp only [riseC,Bool.and_eq_true] at h ⊢
  refine ⟨⟨h.1.1,?_⟩,h.2⟩
  apply lessB_pos
  rintro e
  rw [e,lessB_nil] at h
  simp at h
theorem fit_key {y:Child} (h:y.fit=true):({ y with key:=[] }:Child).fit=true:=by
 rw [Child.fit_iff] at h ⊢
 exact ⟨h.1,h.2.1,by simp⟩
def Laid (M:Store) (k:Bytes) (L kids:List Child) (M':Store) (new:List Int):Prop:=
 (∃ i,(layC L).length<=240/\M i=none/\2<=i/\i<=100000/\kids=[⟨k,i⟩]/\M'=updS M i (some ⟨3,0,layC L⟩)/\new=[i]) ∨
 ∃ z ra y rb i1 i2,240<(layC L).length/\splitC L=(z :: ra,y :: rb)/\M i1=none/\2<=i1/\i1<=100000/\updS M i1 (some ⟨3,0,layC (headKey [] (z :: ra))⟩) i2=none/\2<=i2/\i2<=100000/\kids=[⟨k,i1⟩,⟨y.key,i2⟩] ∧
  M'=updS (updS M i1 (some ⟨3,0,layC (headKey [] (z :: ra))⟩)) i2 (some ⟨3,0,layC (headKey [] (y :: rb))⟩)/\new=[i1,i2]
def allC (L:List Child) (i:Nat) (c:Child) (kids:List Child):List Child:=headKey [] (L.take i++headKey c.key kids++L.drop (i+1))
inductive Ups (M:Store) (kids:List Child):List (Int × Nat × List Child)->Store->List Child->List Int->Prop
 | nil:Ups M kids [] M kids []
 | snoc {pre:List (Int × Nat × List Child)} {M1 M2:Store} {kids1 kids2:List Child} {new new2:List Int} {id:Int} {i:Nat} {L:List Child} {c:Child}:Ups M kids pre M1 kids1 new->L[i]? = some c->Laid M1 [] (allC L i c kids1) kids2 M2 new2->Ups M kids (pre++[(id,i,L)]) M2 kids2 (new++new2)
structure Grow (M M':Store) (new:List Int):Prop where
 same:∀ i,i ∉ new->M' i=M i
 fresh:∀ i∈new,M i=none
 nodup:new.Nodup
 there:∀ i∈new,M' i≠none
theorem Grow.refl (M:Store):Grow M M []:=⟨λ _ _=>rfl,λ _ h=>by simp at h,List.nodup_nil,λ _ h=>by simp at h⟩
theorem Grow.trans {M M1 M2:Store} {a b:List Int} (h:Grow M M1 a) (k:Grow M1 M2 b):Grow M M2 (a++b):=by
 have hab:∀ i∈a,i ∉ b:=λ i ha hb=>h.there i ha (k.fresh i hb)
 refine ⟨λ i hi=>?_,λ i hi=>?_,?_,λ i hi=>?_⟩
 ·rw [List.mem_append,not_or] at hi
  rw [k.same i hi.2,h.same i hi.1]
 ·by_cases ha:i∈a
  ·exact h.fresh i ha
  ·rw [<- h.same i ha]
   exact k.fresh i ((List.mem_append.1 hi).resolve_left ha)
 ·rw [List.nodup_append]
  exact ⟨h.nodup,k.nodup,λ x hx y hy e=>hab x hx (e ▸ hy)⟩
 ·by_cases ha:i∈a
  ·rw [k.same i (hab i ha)]
   exact h.there i ha
  ·exact k.there i ((List.mem_append.1 hi).resolve_left ha)
theorem Grow.one {M:Store} {i:Int} {x:Pg} (h:M i=none):Grow M (updS M i (some x)) [i]:=by
 refine ⟨λ j hj=>?_,λ j hj=>?_,by simp,λ j hj=>?_⟩
 ·unfold updS;rw [if_neg (by simpa using hj)]
 ·rw [List.mem_singleton.1 hj];exact h
 ·rw [List.mem_singleton.1 hj];unfold updS;simp
theorem Grow.sameOn {M M':Store} {new ids:List Int} (h:Grow M M' new) (hi:∀ i∈ids,M i≠none):SameOn M M' ids:=λ i hm=>h.same i λ hn=>hi i hm (h.fresh i hn)
-- the pages of a tree are there
theorem ChainAt.there {M:Store} {id:Int} {v:Bytes} {ids:List Int} (h:ChainAt M id v ids):∀ i∈ids,M i≠none:=by
 induction h with
 | last h1 h2 h3=>intro i hi;rw [List.mem_singleton.1 hi,h1];simp
 | more h1 h2 h3 _ ih =>
  intro i hi
  rcases List.mem_cons.1 hi with rfl | hi
  ·rw [h1];simp
  ·exact ih i hi
theorem ValAt.there {M:Store} {x:Item} {v:Bytes} {ids:List Int} (h:ValAt M x v ids):∀ i∈ids,M i≠none:=by
 rcases h with ⟨_,_,rfl⟩ | ⟨_,h,_⟩
 ·intro i hi;simp at hi
 ·exact h.there
theorem LeafAt.there {M:Store}:∀ {l:List Item} {ps:List Pair} {ids:List Int},LeafAt M l ps ids->∀ i∈ids,M i≠none
 | [],_,_,⟨_,h⟩=>by subst h;intro i hi;simp at hi
 | _ :: _,_,_,⟨v,ps',i1,i2,h1,h2,h3,h4⟩=>by
  subst h2
  intro i hi
  rcases List.mem_append.1 hi with hi | hi
  ·exact h3.there i hi
  ·exact h4.there i hi
theorem Seg.there {M:Store} {T:Int->Bytes->Option Bytes->List Pair->List Int->Prop} (hT:∀ i l h p q,T i l h p q->∀ x∈q,M x≠none):∀ {L:List Child} {hi:Option Bytes} {ps:List Pair} {ids:List Int},Seg T L hi ps ids->∀ i∈ids,M i≠none
 | [],_,_,_,⟨_,h⟩=>by subst h;intro i hi;simp at hi
 | _ :: _,_,_,_,⟨p1,p2,i1,i2,h1,h2,h3,h4⟩=>by
  subst h2
  intro i hi
  rcases List.mem_append.1 hi with hi | hi
  ·exact hT _ _ _ _ _ h3 i hi
  ·exact Seg.there hT h4 i hi
theorem TreeAt.there {M:Store} {d:Nat}:∀ {k:Nat} {id:Int} {lo:Bytes} {hi:Option Bytes} {ps:List Pair} {ids:List Int},TreeAt M d k id lo hi ps ids->∀ i∈ids,M i≠none
 | 0,id,lo,hi,ps,ids,⟨items,i2,h1,h2,h3,h4,h5,h6⟩=>by
  subst h5
  intro i hi
  rcases List.mem_cons.1 hi with rfl | hi
  ·rw [h1];simp
  ·exact h4.there i hi
 | k+1,id,lo,hi,ps,ids,⟨c,L,i2,h1,h2,h3,h4,h5,h6,h7⟩=>by
  subst h7
  intro i hi
  rcases List.mem_cons.1 hi with rfl | hi
  ·rw [h1];simp
  ·exact Seg.there (λ _ _ _ _ _ ht=>TreeAt.there ht.1) h6 i hi
theorem seg_there {M:Store} {d k:Nat} {L:List Child} {hi:Option Bytes} {ps:List Pair} {ids:List Int} (h:Seg (Sub M d k) L hi ps ids):∀ i∈ids,M i≠none:=Seg.there (λ _ _ _ _ _ ht=>TreeAt.there ht.1) h
theorem seg_same {M M':Store} {d k:Nat} {L:List Child} {hi:Option Bytes} {ps:List Pair} {ids new:List Int} (h:Seg (Sub M d k) L hi ps ids) (hg:Grow M M' new):Seg (Sub M' d k) L hi ps ids:=
 h.mono λ i l h' p q hq ht=>⟨TreeAt.same ht.1 (hg.sameOn λ x hx=>seg_there h x (hq x hx)),ht.2⟩
-- keys at the head
theorem headKey_twice (a b:Bytes) (L:List Child):headKey a (headKey b L)=headKey a L:=by cases L<;>rfl
theorem headKey_app {a b:List Child} (k:Bytes) (h:a≠[]):headKey k (a++b)=headKey k a++b:=by
 cases a with
 | nil=>exact absurd rfl h
 | cons c a=>rfl
theorem headKey_len (k:Bytes) (L:List Child):(headKey k L).length=L.length:=by cases L<;>rfl
theorem headKey_ne {k:Bytes} {L:List Child} (h:L≠[]):headKey k L≠[]:=by
 cases L with
 | nil=>exact absurd rfl h
 | cons c L=>simp [headKey]
theorem headKey_fit {L:List Child} (h:∀ x∈L,x.fit=true):∀ x∈headKey [] L,x.fit=true:=by
 cases L with
 | nil=>exact h
 | cons c L =>
  intro x hx
  rcases List.mem_cons.1 hx with rfl | hx
  ·exact fit_key (h c (List.mem_cons_self ..))
  ·exact h x (List.mem_cons_of_mem _ hx)
theorem headKey_fit' {L:List Child} {k:Bytes} (hk:k.length<=40) (h:∀ x∈L,x.fit=true):∀ x∈headKey k L,x.fit=true:=by
 cases L with
 | nil=>exact h
 | cons c L =>
  intro x hx
  rcases List.mem_cons.1 hx with rfl | hx
  ·have:=Child.fit_iff.1 (h c (List.mem_cons_self ..))
   exact Child.fit_iff.2 ⟨this.1,this.2.1,hk⟩
  ·exact h x (List.mem_cons_of_mem _ hx)
theorem Seg.ne {M:Store} {d k:Nat} {L:List Child} {hi:Option Bytes} {ps:List Pair} {ids:List Int} (h:Seg (Sub M d k) L hi ps ids) (hl:L≠[]):ps≠[]:=by
 cases L with
 | nil=>exact absurd rfl hl
 | cons c L =>
  obtain ⟨p1,p2,i1,i2,rfl,_,h3,_⟩:=h
  intro e
  exact h3.2 (List.append_eq_nil_iff.1 e).1
theorem Seg.riseC {M:Store} {d k:Nat}:∀ {L:List Child} {c:Child} {hi:Option Bytes} {ps:List Pair} {ids:List Int},Seg (Sub M d k) (c :: L) hi ps ids->(∀ x∈L,x.fit=true)->riseC c.key L=true
 | [],c,hi,ps,ids,h,hf=>rfl
 | c' :: L,c,hi,ps,ids,h,hf=>by
  obtain ⟨p1,p2,i1,i2,rfl,rfl,⟨g3,g4⟩,g5⟩:=h
  obtain ⟨x,hx⟩:=List.exists_mem_of_ne_nil _ g4
  have hxc:=TreeAt.inR g3 x hx
  have hcc:lessB c.key c'.key=true:=lessB_of_le_lt hxc.1 (hxc.2 c'.key rfl)
  simp only [Go.Ev.riseC,Bool.and_eq_true]
  exact ⟨⟨hf c' (List.mem_cons_self ..),hcc⟩,Seg.riseC g5 λ x hx=>hf x (List.mem_cons_of_mem _ hx)⟩
theorem Seg.right {M:Store} {d k:Nat} {F:List Child} {hi:Option Bytes} {ps:List Pair} {ids:List Int} (h:Seg (Sub M d k) F hi ps ids) (hne:F≠[]) (hf:∀ x∈headKey [] F,x.fit=true):rightC (headKey [] F)=true:=by
 cases F with
 | nil=>exact absurd rfl hne
 | cons c L =>
  simp only [headKey] at hf ⊢
  rw [rightC_cons]
  exact ⟨hf _ (List.mem_cons_self ..),rfl,riseC_nil (h.riseC λ x hx=>hf x (List.mem_cons_of_mem _ hx))⟩
theorem splitC_app {L a b:List Child} (h:splitC L=(a,b)):a++b=L:=by
 unfold splitC at h
 split at h
 ·cases h;simp
 ·cases h;exact List.take_append_drop _ _
structure FitP (L:List Child):Prop where
 right:rightC L=true
 len:(layC L).length<=400
 fit:(layC L).length<=240\/240<(layC L).length/\∃ z ra y rb,splitC L=(z :: ra,y :: rb)/\rightC (headKey [] (z :: ra))=true/\rightC (headKey [] (y :: rb))=true ∧
  (layC (headKey [] (z :: ra))).length<=240/\(layC (headKey [] (y :: rb))).length<=240/\2<=(z :: ra).length/\2<=(y :: rb).length
theorem layC_le51 {L:List Child} (h:∀ x∈L,x.lay.length<=51):(layC L).length<=51*L.length:=by
 induction L with
 | nil=>simp [layC]
 | cons x L ih =>
  have h1:=h x (List.mem_cons_self ..)
  have h2:=ih λ y hy=>h y (List.mem_cons_of_mem _ hy)
  simp only [layC,List.length_append,List.length_cons]
  omega
theorem FitP.of {L:List Child} (hr:rightC L=true) (hs:(layC L).length<=400):FitP L:=by
 refine ⟨hr,hs,?_⟩
 by_cases h240:(layC L).length<=240
 ·exact .inl h240
 ·have hg:=rightC_len hr
  have h51:=layC_le51 hg
  have h2:2<=L.length:=by omega
  obtain ⟨b1,b2,b3⟩:=costC_half hg h2
  have hsp:splitC L=(L.take (bestAt (costC L) L.length),L.drop (bestAt (costC L) L.length)):=by
   unfold splitC
   rw [if_neg (by omega)]
  generalize hb:bestAt (costC L) L.length=b at *
  have hlen:(layC L).length=(layC (L.take b)).length+(layC (L.drop b)).length:=by
   rw [<- List.length_append,<- layC_append,List.take_append_drop]
  unfold costC at b3
  have happ:=List.take_append_drop b L
  have l1:(L.take b).length=b:=by rw [List.length_take];omega
  have l2:(L.drop b).length=L.length-b:=List.length_drop
  have q1:=layC_le51 (L:=L.take b) λ x hx=>hg x (List.mem_of_mem_take hx)
  have q2:=layC_le51 (L:=L.drop b) λ x hx=>hg x (List.mem_of_mem_drop hx)
  cases ht:L.take b with
  | nil=>rw [ht] at l1;simp at l1;omega
  | cons z ra =>
   cases hd:L.drop b with
   | nil=>rw [hd] at l2;simp at l2;omega
   | cons y rb =>
    rw [ht] at hlen b3 l1 q1
    rw [hd] at hlen b3 l2 q2
    rw [ht,hd] at happ hsp
    have hr':=hr
    rw [<- happ] at hr'
    obtain ⟨r1,r2,r3⟩:=rightC_app hr' (by simp)
    have hz:headKey [] (z :: ra)=z :: ra:=by
     have:=(rightC_cons.1 r1).2.1
     simp only [headKey]
     rw [<- this]
    refine .inr ⟨by omega,z,ra,y,rb,hsp,by rw [hz];exact r1,?_,by rw [hz];omega,?_,by omega,by omega⟩
    ·simp only [headKey]
     rw [rightC_cons]
     exact ⟨fit_key r2,rfl,riseC_nil r3⟩
    ·have:=headKey_lay' (y :: rb)
     omega
structure KidsFit (kids:List Child):Prop where
 ne:kids≠[]
 two:kids.length<=2
 fit:∀ x∈kids,x.fit=true
theorem Laid.tree {M M2:Store} {d k:Nat} {hi:Option Bytes} {ps:List Pair} {ids new2:List Int} {lo:Bytes} {c:Child} {L kids2:List Child} (hd:d<=2) (hlo:c.key=lo) (hs:Seg (Sub M d k) (c :: L) hi ps ids) (hdl:d<=L.length+1) (hf:FitP (headKey [] (c :: L)))
  (h:Laid M [] (headKey [] (c :: L)) kids2 M2 new2):Grow M M2 new2/\KidsFit kids2/\∃ idk,Seg (Sub M2 d (k+1)) (headKey lo kids2) hi ps idk/\idk.Perm (new2++ids):=by
 have hne:=hs.ne (by simp)
 rcases h with ⟨i,h1,h2,h3,h4,rfl,rfl,rfl⟩ | ⟨z,ra,y,rb,i1,i2,h1,h2,h3,h4,h5,h6,h7,h8,rfl,rfl,rfl⟩
 ·have hg:Grow M (updS M i (some ⟨3,0,layC (headKey [] (c :: L))⟩)) [i]:=Grow.one h2
  refine ⟨hg,⟨by simp,by simp,λ x hx=>?_⟩,i :: ids,⟨ps,[],i :: ids,[],by simp,by simp,⟨⟨c,L,ids,?_,hf.right,h1,hdl,hlo,seg_same hs hg,rfl⟩,hne⟩,rfl,rfl⟩,by simp⟩
  ·rw [List.mem_singleton.1 hx]
   exact Child.fit_iff.2 ⟨h3,(by dsimp only;omega),by simp⟩
  ·unfold updS;simp
 ·have happ:=splitC_app h2
  obtain ⟨_,z',ra',y',rb',e0,r1,r2,r3,r4,r5,r6⟩:=hf.fit.resolve_left (by omega)
  rw [h2] at e0
  simp only [Prod.mk.injEq,List.cons.injEq] at e0
  obtain ⟨⟨rfl,rfl⟩,rfl,rfl⟩:=e0
  have hF:c :: L=headKey lo (z :: ra)++(y :: rb):=by
   have:headKey lo (headKey [] (c :: L))=c :: L:=by rw [headKey_twice,<- hlo];rfl
   rw [<- this,<- happ,headKey_app _ (by simp)]
  rw [hF] at hs
  obtain ⟨p1,p2,j1,j2,rfl,rfl,s1,s2⟩:=Seg.append.1 hs
  have n1:=s1.ne (headKey_ne (by simp))
  have n2:=s2.ne (by simp)
  have g1:Grow M (updS M i1 (some ⟨3,0,layC (headKey [] (z :: ra))⟩)) [i1]:=Grow.one h3
  have g2:=Grow.one (x:=⟨3,0,layC (headKey [] (y :: rb))⟩) h6
  have hg:=g1.trans g2
  have hn12:i1≠i2:=by
   rintro rfl
   simp [updS] at h6
  have t1:=seg_same s1 hg
  have t2:=seg_same s2 hg
  have hyk:y.key.length<=40:=by
   have:y∈headKey [] (c :: L):=by rw [<- happ];simp
   exact (Child.fit_iff.1 (rightC_fit hf.right y this)).2.2
  refine ⟨hg,⟨by simp,by simp,λ x hx=>?_⟩,i1 :: j1++(i2 :: j2),⟨p1,p2,i1 :: j1,i2 :: j2,rfl,rfl,⟨⟨{ z with key:=lo },ra,j1,?_,r1,r3,by simp at r5 ⊢;omega,rfl,t1,rfl⟩,n1⟩,p2,[],i2 :: j2,[],by simp,by simp,⟨⟨y,rb,j2,?_,r2,r4,by simp at r6 ⊢;omega,rfl,t2,rfl⟩,n2⟩,rfl,rfl⟩,?_⟩
  ·rcases List.mem_cons.1 hx with rfl | hx
   ·exact Child.fit_iff.2 ⟨h4,(by dsimp only;omega),by simp⟩
   ·rw [List.mem_singleton.1 hx]
    exact Child.fit_iff.2 ⟨h7,(by dsimp only;omega),hyk⟩
  ·show updS (updS M i1 _) i2 _ i1=_
   unfold updS
   rw [if_neg hn12,if_pos rfl]
   rfl
  ·show updS (updS M i1 _) i2 _ i2=_
   unfold updS
   rw [if_pos rfl]
  ·rw [List.perm_iff_count]
   intro a
   simp only [List.count_append,List.count_cons,List.count_nil,List.cons_append,List.nil_append]
   omega
inductive Trail (M:Store) (key:Bytes):Int->List (Int × Nat × List Child)->Int->List Item->Prop
 | leaf {id:Int} {items:List Item}:M id=some ⟨2,0,layI items⟩->riseI items=true->(layI items).length<=240->Trail M key id [] id items
 | branch {id lid:Int} {L:List Child} {items:List Item} {x:Child} {P:List (Int × Nat × List Child)}:M id=some ⟨3,0,layC L⟩->rightC L=true->(layC L).length<=240->L[findC key L]? = some x →
   Trail M key x.page P lid items->Trail M key id ((id,findC key L,L) :: P) lid items
theorem layC_inj {a b:List Child} (ha:rightC a=true) (hb:rightC b=true) (la:(layC a).length<=240) (h:layC a=layC b):a=b:=by
 have h1:=getC_put ha la
 have h2:=getC_put hb (h ▸ la)
 rw [h,h2] at h1
 simpa using h1.symm
theorem layI_inj {a b:List Item} (ha:riseI a=true) (hb:riseI b=true) (la:(layI a).length<=240) (h:layI a=layI b):a=b:=by
 have h1:=getI_put ha la
 have h2:=getI_put hb (h ▸ la)
 rw [h,h2] at h1
 simpa using h1.symm
def LaidI (M:Store) (l:List Item) (kids:List Child) (M':Store) (new:List Int):Prop:=
 (∃ i,(layI l).length<=240/\M i=none/\2<=i/\i<=100000/\kids=[⟨[],i⟩]/\M'=updS M i (some ⟨2,0,layI l⟩)/\new=[i]) ∨
 ∃ a y r i1 i2,240<(layI l).length/\splitI l=(a,y :: r)/\M i1=none/\2<=i1/\i1<=100000/\updS M i1 (some ⟨2,0,layI a⟩) i2=none/\2<=i2/\i2<=100000/\kids=[⟨[],i1⟩,⟨y.key,i2⟩] ∧
  M'=updS (updS M i1 (some ⟨2,0,layI a⟩)) i2 (some ⟨2,0,layI (y :: r)⟩)/\new=[i1,i2]
structure FitI (l:List Item):Prop where
 rise:riseI l=true
 len:(layI l).length<=344
 fit:(layI l).length<=240\/240<(layI l).length/\∃ z ra y rb,splitI l=(z :: ra,y :: rb)/\riseI (z :: ra)=true/\riseI (y :: rb)=true/\(layI (z :: ra)).length<=240/\(layI (y :: rb)).length<=240
theorem splitI_app {l a b:List Item} (h:splitI l=(a,b)):a++b=l:=by
 unfold splitI at h
 split at h
 ·cases h;simp
 ·cases h;exact List.take_append_drop _ _
theorem layI_le104 {l:List Item} (h:∀ x∈l,x.lay.length<=104):(layI l).length<=104*l.length:=by
 induction l with
 | nil=>simp [layI]
 | cons x l ih =>
  have h1:=h x (List.mem_cons_self ..)
  have h2:=ih λ y hy=>h y (List.mem_cons_of_mem _ hy)
  simp only [layI,List.length_append,List.length_cons]
  omega
theorem FitI.of {l:List Item} (hr:riseI l=true) (hs:(layI l).length<=344):FitI l:=by
 refine ⟨hr,hs,?_⟩
 by_cases h240:(layI l).length<=240
 ·exact .inl h240
 ·have hg:∀ x∈l,x.lay.length<=104:=λ x hx=>Item.lay_right (riseI_right hr x hx)
  have h51:=layI_le104 hg
  have h2:2<=l.length:=by omega
  obtain ⟨b1,b2,b3⟩:=costI_half hg h2
  have hsp:splitI l=(l.take (bestAt (costI l) l.length),l.drop (bestAt (costI l) l.length)):=by
   unfold splitI
   rw [if_neg (by omega)]
  generalize hb:bestAt (costI l) l.length=b at *
  unfold costI at b3
  have happ:=List.take_append_drop b l
  have l1:(l.take b).length=b:=by rw [List.length_take];omega
  have l2:(l.drop b).length=l.length-b:=List.length_drop
  have hr':=hr
  rw [<- happ] at hr'
  obtain ⟨r1,r2,_⟩:=riseI_append.1 hr'
  cases ht:l.take b with
  | nil=>rw [ht] at l1;simp at l1;omega
  | cons z ra =>
   cases hd:l.drop b with
   | nil=>rw [hd] at l2;simp at l2;omega
   | cons y rb =>
    rw [ht] at b3 r1
    rw [hd] at b3 r2
    rw [ht,hd] at hsp
    exact .inr ⟨by omega,z,ra,y,rb,hsp,r1,r2,by omega,by omega⟩
theorem layI_set (x:Item):∀ l:List Item,(layI (setI l x)).length<=(layI l).length+x.lay.length
 | []=>by simp [setI_nil,layI]
 | y :: l=>by
  have:=layI_set x l
  rw [setI_cons]
  split
  ·simp only [layI,List.length_append];omega
  ·split<;>simp only [layI,List.length_append]<;>omega
theorem setI_fit {l:List Item} {x:Item} (hr:riseI l=true) (hl:(layI l).length<=240) (hx:x.right=true):FitI (setI l x):=by
 refine FitI.of (setI_rise hr hx) ?_
 have:=layI_set x l
 have:=Item.lay_right hx
 omega
theorem LeafAt.append {M:Store}:∀ {a b:List Item} {ps:List Pair} {ids:List Int},LeafAt M (a++b) ps ids->∃ p1 p2 i1 i2,ps=p1++p2/\ids=i1++i2/\LeafAt M a p1 i1/\LeafAt M b p2 i2
 | [],b,ps,ids,h=>⟨[],ps,[],ids,rfl,rfl,⟨rfl,rfl⟩,h⟩
 | x :: a,b,ps,ids,⟨v,ps',i1,i2,h1,h2,h3,h4⟩=>by
  obtain ⟨p1,p2,j1,j2,rfl,rfl,h5,h6⟩:=LeafAt.append h4
  exact ⟨(x.key,v) :: p1,p2,i1++j1,j2,by rw [h1];rfl,by rw [h2];simp,⟨v,p1,i1,j1,rfl,rfl,h3,h5⟩,h6⟩
theorem LeafAt.grow {M M':Store} {l:List Item} {ps:List Pair} {ids new:List Int} (h:LeafAt M l ps ids) (hg:Grow M M' new):LeafAt M' l ps ids:=h.same (hg.sameOn h.there)
theorem ValAt.grow {M M':Store} {x:Item} {v:Bytes} {ids new:List Int} (h:ValAt M x v ids) (hg:Grow M M' new):ValAt M' x v ids:=h.same (hg.sameOn h.there)
def OldAt (M:Store) (items:List Item) (key:Bytes) (ps:List Pair) (old:List Int):Prop:=
 (isAt key items=false/\old=[])\/∃ it v',isAt key items=true/\items[ahead key items]? = some it/\ValAt M it v' old/\(key,v')∈ps
theorem leaf_set {M:Store} {key:Bytes}:∀ {items:List Item} {ps:List Pair} {i2:List Int},riseI items=true->LeafAt M items ps i2 →
  ∃ old,OldAt M items key ps old/\∀ (Mc:Store) (x:Item) (v:Bytes) (newc:List Int),x.key=key->Grow M Mc newc->ValAt Mc x v newc->∃ i2',LeafAt Mc (setI items x) (insP key v ps) i2'/\(i2'++old).Perm (i2++newc)
 | [],ps,i2,hr,h=>by
  obtain ⟨rfl,rfl⟩:=h
  exact ⟨[],.inl ⟨rfl,rfl⟩,λ Mc x v newc hk hg hx=>⟨newc,⟨v,[],newc,[],by rw [<- hk];rfl,by simp,hx,rfl,rfl⟩,by simp⟩⟩
 | y :: l,ps,i2,hr,h=>by
  obtain ⟨v1,ps',j1,j2,rfl,rfl,h3,h4⟩:=h
  have hr1:=(riseI_tail hr).1
  simp only [insP,OldAt,isAt,ahead]
  by_cases hlt:lessB y.key key=true
  ·obtain ⟨old,q1,q2⟩:=leaf_set (key:=key) hr1 h4
   refine ⟨old,?_,λ Mc x v newc hk hg hx=>?_⟩
   ·simp only [hlt,if_true]
    rcases q1 with q1 | ⟨it,v',k1,k2,k3,k4⟩
    ·exact .inl q1
    ·exact .inr ⟨it,v',k1,by simpa using k2,k3,List.mem_cons_of_mem _ k4⟩
   ·obtain ⟨i2',q3,q4⟩:=q2 Mc x v newc hk hg hx
    refine ⟨j1++i2',?_,?_⟩
    ·rw [setI_cons,hk]
     simp only [hlt,if_true]
     exact ⟨v1,_,j1,i2',rfl,rfl,h3.grow hg,q3⟩
    ·rw [List.perm_iff_count] at q4 ⊢
     intro a
     have:=q4 a
     simp only [List.count_append] at this ⊢
     omega
  ·by_cases he:y.key=key
   ·refine ⟨j1,?_,λ Mc x v newc hk hg hx=>⟨newc++j2,?_,?_⟩⟩
    ·refine .inr ⟨y,v1,?_,?_,h3,?_⟩
     ·rw [if_neg hlt];simpa using he
     ·rw [if_neg hlt];rfl
     ·rw [<- he];exact List.mem_cons_self ..
    ·rw [setI_cons,hk,if_neg hlt,if_pos he,if_neg hlt,if_neg (by rw [he,lessB_irrefl];simp)]
     exact ⟨v,ps',newc,j2,by rw [hk],rfl,hx,h4.grow hg⟩
    ·rw [List.perm_iff_count]
     intro a
     simp only [List.count_append]
     omega
   ·have hgt:lessB key y.key=true:=by
     rcases lessB_total y.key key with h | h | h
     ·exact absurd h hlt
     ·exact absurd h he
     ·exact h
    refine ⟨[],?_,λ Mc x v newc hk hg hx=>⟨newc++(j1++j2),?_,?_⟩⟩
    ·refine .inl ⟨?_,rfl⟩
     rw [if_neg hlt];simpa using he
    ·rw [setI_cons,hk,if_neg hlt,if_neg he,if_neg hlt,if_pos hgt]
     exact ⟨v,_,newc,j1++j2,by rw [hk],rfl,hx,v1,ps',j1,j2,rfl,rfl,h3.grow hg,h4.grow hg⟩
    ·rw [List.perm_iff_count]
     intro a
     simp only [List.count_append,List.count_nil]
     omega
theorem LeafAt.ne {M:Store} {l:List Item} {ps:List Pair} {ids:List Int} (h:LeafAt M l ps ids) (hl:l≠[]):ps≠[]:=by
 cases l with
 | nil=>exact absurd rfl hl
 | cons x l=>obtain ⟨v,ps',i1,i2,rfl,_⟩:=h;simp
theorem LaidI.tree {M M2:Store} {d:Nat} {hi:Option Bytes} {lo:Bytes} {l:List Item} {ps:List Pair} {ids new2:List Int} {kids:List Child} (hs:LeafAt M l ps ids) (hne:l≠[]) (hf:FitI l) (hR:∀ p∈ps,inR lo hi p.1) (h:LaidI M l kids M2 new2) :
  Grow M M2 new2/\KidsFit kids/\∃ idk,Seg (Sub M2 d 0) (headKey lo kids) hi ps idk/\idk.Perm (new2++ids):=by
 have hpn:=hs.ne hne
 rcases h with ⟨i,h1,h2,h3,h4,rfl,rfl,rfl⟩ | ⟨a,y,rb,i1,i2,h1,h2,h3,h4,h5,h6,h7,h8,rfl,rfl,rfl⟩
 ·have hg:Grow M (updS M i (some ⟨2,0,layI l⟩)) [i]:=Grow.one h2
  refine ⟨hg,⟨by simp,by simp,λ x hx=>?_⟩,i :: ids,⟨ps,[],i :: ids,[],by simp,by simp,⟨⟨l,ids,?_,hf.rise,h1,hs.grow hg,rfl,hR⟩,hpn⟩,rfl,rfl⟩,by simp⟩
  ·rw [List.mem_singleton.1 hx]
   exact Child.fit_iff.2 ⟨h3,(by dsimp only;omega),by simp⟩
  ·unfold updS;simp
 ·have happ:=splitI_app h2
  obtain ⟨_,z',ra',y',rb',e0,r1,r2,r3,r4⟩:=hf.fit.resolve_left (by omega)
  rw [h2] at e0
  simp only [Prod.mk.injEq,List.cons.injEq] at e0
  obtain ⟨rfl,rfl,rfl⟩:=e0
  rw [<- happ] at hs
  have hrise:=hf.rise
  rw [<- happ] at hrise
  obtain ⟨_,_,hcross⟩:=riseI_append.1 hrise
  obtain ⟨p1,p2,j1,j2,rfl,rfl,s1,s2⟩:=hs.append
  have n1:=s1.ne (by simp)
  have n2:=s2.ne (by simp)
  have hg:=(Grow.one (x:=⟨2,0,layI (z' :: ra')⟩) h3).trans (Grow.one (x:=⟨2,0,layI (y :: rb)⟩) h6)
  have hn12:i1≠i2:=by
   rintro rfl
   simp [updS] at h6
  obtain ⟨k1,m1⟩:=leaf_rising s1 r1
  obtain ⟨k2,m2⟩:=leaf_rising s2 r2
  have hyr:=Item.right_key (riseI_right r2 y (List.mem_cons_self ..))
  have R1:∀ q∈p1,inR lo (some y.key) q.1:=λ q hq=>by
   refine ⟨(hR q (List.mem_append_left _ hq)).1,λ h hh=>?_⟩
   cases hh
   have:q.1∈p1.map (·.1):=List.mem_map_of_mem hq
   rw [m1] at this
   obtain ⟨it,hit,e⟩:=List.mem_map.1 this
   rw [<- e]
   exact hcross it hit y (List.mem_cons_self ..)
  have R2:∀ q∈p2,inR y.key hi q.1:=λ q hq=>by
   refine ⟨?_,(hR q (List.mem_append_right _ hq)).2⟩
   have:q.1∈p2.map (·.1):=List.mem_map_of_mem hq
   rw [m2] at this
   obtain ⟨it,hit,e⟩:=List.mem_map.1 this
   rw [<- e]
   rcases List.mem_cons.1 hit with rfl | hit
   ·exact lessB_irrefl _
   ·exact lessB_asymm ((riseI_tail r2).2 it hit)
  refine ⟨hg,⟨by simp,by simp,λ x hx=>?_⟩,i1 :: j1++(i2 :: j2),⟨p1,p2,i1 :: j1,i2 :: j2,rfl,rfl,⟨⟨z' :: ra',j1,?_,r1,r3,s1.grow hg,rfl,R1⟩,n1⟩,p2,[],i2 :: j2,[],by simp,by simp,⟨⟨y :: rb,j2,?_,r2,r4,s2.grow hg,rfl,R2⟩,n2⟩,rfl,rfl⟩,?_⟩
  ·rcases List.mem_cons.1 hx with rfl | hx
   ·exact Child.fit_iff.2 ⟨h4,(by dsimp only;omega),by simp⟩
   ·rw [List.mem_singleton.1 hx]
    exact Child.fit_iff.2 ⟨h7,(by dsimp only;omega),hyr.2⟩
  ·show updS (updS M i1 _) i2 _ i1=_
   unfold updS
   rw [if_neg hn12,if_pos rfl]
  ·show updS (updS M i1 _) i2 _ i2=_
   unfold updS
   rw [if_pos rfl]
  ·rw [List.perm_iff_count]
   intro a
   simp only [List.count_append,List.count_cons,List.count_nil,List.cons_append,List.nil_append]
   omega
theorem Laid.rekey {M M':Store} {k:Bytes} {L kids:List Child} {new:List Int} (h:Laid M k L kids M' new):Laid M [] L (headKey [] kids) M' new:=by
 rcases h with ⟨i,h1,h2,h3,h4,rfl,h6,h7⟩ | ⟨z,ra,y,rb,i1,i2,h1,h2,h3,h4,h5,h6,h7,h8,rfl,h9,h10⟩
 ·exact .inl ⟨i,h1,h2,h3,h4,rfl,h6,h7⟩
 ·exact .inr ⟨z,ra,y,rb,i1,i2,h1,h2,h3,h4,h5,h6,h7,h8,rfl,h9,h10⟩
theorem two_fit {c1 c2:Child} (h1:c1.fit=true) (h2:c2.fit=true) (hk:c2.key≠[]):FitP (headKey [] [c1,c2]):=by
 have hf:∀ x∈headKey [] [c1,c2],x.fit=true:=headKey_fit λ x hx=>by
  rcases List.mem_cons.1 hx with rfl | hx
  ·exact h1
  ·rw [List.mem_singleton.1 hx];exact h2
 refine FitP.of ?_ ?_
 ·simp only [headKey]
  rw [rightC_cons]
  refine ⟨hf _ (List.mem_cons_self ..),rfl,?_⟩
  simp only [riseC,Bool.and_eq_true]
  exact ⟨⟨h2,lessB_pos hk⟩,trivial⟩
 ·have:=layC_le51 (L:=headKey [] [c1,c2]) λ z hz=>(Child.lay_fit (hf z hz)).1
  simp [headKey] at this ⊢
  omega
def Child.vlen (c:Child):Nat:=(textB c.key).length+10
def vsz:List Child->Nat
 | []=>0
 | c :: L=>c.vlen+vsz L
theorem textB_len {s:Bytes} (h:s.length<=40):(textB s).length=s.length+1:=by
 unfold textB
 rw [List.length_append,varB_small (n:=s.length) (by omega)]
 omega
theorem vlen_le {c:Child} (h:c.fit=true):c.vlen<=51/\11<=c.vlen/\c.lay.length<=c.vlen:=by
 obtain ⟨h1,h2,h3⟩:=Child.fit_iff.1 h
 have e1:=textB_len h3
 have e2:=varB_len c.page ⟨by omega,by omega⟩
 unfold Child.vlen Child.lay
 rw [List.length_append]
 omega
theorem vsz_app:∀ a b:List Child,vsz (a++b)=vsz a+vsz b
 | [],b=>by simp [vsz]
 | c :: a,b=>by simp only [List.cons_append,vsz,vsz_app a b];omega
theorem vsz_lay:∀ {L:List Child},(∀ x∈L,x.fit=true)->(layC L).length<=vsz L
 | [],_=>Nat.le_refl _
 | c :: L,h=>by
  have h1:=(vlen_le (h c (List.mem_cons_self ..))).2.2
  have h2:=vsz_lay (L:=L) λ x hx=>h x (List.mem_cons_of_mem _ hx)
  simp only [layC,vsz,List.length_append]
  omega
theorem vsz_head_le {L:List Child} (h:∀ x∈L,x.fit=true):vsz (headKey [] L)<=vsz L:=by
 cases L with
 | nil=>exact Nat.le_refl _
 | cons c L =>
  have hc:=(Child.fit_iff.1 (h c (List.mem_cons_self ..))).2.2
  simp only [headKey,vsz,Child.vlen]
  rw [textB_len hc,textB_len (s:=[]) (by simp)]
  simp
def potB (L:List Child):Nat:=vsz L-146
def potI (l:List Item):Nat:=(layI l).length-172
theorem potB_split {L a b:List Child} (hf:∀ x∈L,x.fit=true) (hlen:240<(layC L).length) (hl:(layC L).length<=400) (h2:2<=L.length) (hs:splitC L=(a,b)):potB (headKey [] a)+potB (headKey [] b)+94<=potB L:=by
 have hg:∀ x∈L,x.lay.length<=51:=λ x hx=>(Child.lay_fit (hf x hx)).1
 obtain ⟨q1,q2,q3⟩:=costC_half hg h2
 have happ:=splitC_app hs
 unfold splitC at hs
 rw [if_neg (by omega)] at hs
 simp only [Prod.mk.injEq] at hs
 obtain ⟨ha,hb⟩:=hs
 have fa:∀ x∈a,x.fit=true:=λ x hx=>hf x (by rw [<- happ];exact List.mem_append_left _ hx)
 have fb:∀ x∈b,x.fit=true:=λ x hx=>hf x (by rw [<- happ];exact List.mem_append_right _ hx)
 have hv:vsz L=vsz a+vsz b:=by rw [<- happ,vsz_app]
 have la:=vsz_lay fa
 have lb:=vsz_lay fb
 have hlay:(layC L).length=(layC a).length+(layC b).length:=by rw [<- happ,layC_append,List.length_append]
 generalize bestAt (costC L) L.length=j at *
 unfold costC at q3
 rw [ha,hb] at q3
 have h1:=vsz_head_le fa
 have h3:=vsz_head_le fb
 unfold potB
 omega
theorem potI_split {l a b:List Item} (hr:∀ x∈l,x.right=true) (hlen:240<(layI l).length) (h2:2<=l.length) (hs:splitI l=(a,b)):potI a+potI b+68<=potI l:=by
 have hg:∀ x∈l,x.lay.length<=104:=λ x hx=>Item.lay_right (hr x hx)
 obtain ⟨q1,q2,q3⟩:=costI_half hg h2
 have happ:=splitI_app hs
 unfold splitI at hs
 rw [if_neg (by omega)] at hs
 simp only [Prod.mk.injEq] at hs
 obtain ⟨ha,hb⟩:=hs
 have hlay:(layI l).length=(layI a).length+(layI b).length:=by rw [<- happ,layI_append,List.length_append]
 generalize bestAt (costI l) l.length=j at *
 unfold costI at q3
 rw [ha,hb] at q3
 unfold potI
 omega
-- measures of a tree's levels
def itemsAt (M:Store) (id:Int):List Item:=match M id with | some x=>(getI x.body).1 | none=>[]
def kidsAt (M:Store) (id:Int):List Child:=match M id with | some x=>(getC x.body).1 | none=>[]
theorem itemsAt_of {M:Store} {id:Int} {l:List Item} (h:M id=some ⟨2,0,layI l⟩) (hr:riseI l=true) (hs:(layI l).length<=240):itemsAt M id=l:=by
 unfold itemsAt
 rw [h]
 show (getI (layI l)).1=l
 rw [getI_put hr hs]
theorem kidsAt_of {M:Store} {id:Int} {L:List Child} (h:M id=some ⟨3,0,layC L⟩) (hr:rightC L=true) (hs:(layC L).length<=240):kidsAt M id=L:=by
 unfold kidsAt
 rw [h]
 show (getC (layC L)).1=L
 rw [getC_put hr hs]
def sumN {α:Type} (f:α->Nat):List α->Nat
 | []=>0
 | x :: l=>f x+sumN f l
theorem sumN_app {α:Type} (f:α->Nat):∀ a b:List α,sumN f (a++b)=sumN f a+sumN f b
 | [],b=>by simp [sumN]
 | x :: a,b=>by simp only [List.cons_append,sumN,sumN_app f a b];omega
def meas (f:List Item->Nat) (g:List Child->Nat) (M:Store):Nat->Int->Nat->Nat
 | 0,id,l=>if l=0 then f (itemsAt M id) else 0
 | k+1,id,l=>if l=k+1 then g (kidsAt M id) else sumN (λ c=>meas f g M k c.page l) (kidsAt M id)
def measL (f:List Item->Nat) (g:List Child->Nat) (M:Store) (k:Nat) (L:List Child) (l:Nat):Nat:=sumN (λ c=>meas f g M k c.page l) L
theorem measL_head (f:List Item->Nat) (g:List Child->Nat) (M:Store) (k:Nat) (key:Bytes) (L:List Child) (l:Nat):measL f g M k (headKey key L) l=measL f g M k L l:=by
 cases L with
 | nil=>rfl
 | cons c L=>rfl
theorem meas_same {f:List Item->Nat} {g:List Child->Nat} {M M':Store} {d:Nat}:∀ {k:Nat} {id:Int} {lo:Bytes} {hi:Option Bytes} {ps:List Pair} {ids:List Int},TreeAt M d k id lo hi ps ids->SameOn M M' ids->∀ l,meas f g M' k id l=meas f g M k id l
 | 0,id,lo,hi,ps,ids,⟨items,i2,h1,h2,h3,h4,h5,h6⟩,hs,l=>by
  have h1':M' id=some ⟨2,0,layI items⟩:=by rw [hs id (by rw [h5];exact List.mem_cons_self ..),h1]
  simp only [meas,itemsAt_of h1 h2 h3,itemsAt_of h1' h2 h3]
 | k+1,id,lo,hi,ps,ids,⟨c,L,i2,h1,h2,h3,h4,h5,h6,h7⟩,hs,l=>by
  have h1':M' id=some ⟨3,0,layC (headKey [] (c :: L))⟩:=by rw [hs id (by rw [h7];exact List.mem_cons_self ..),h1]
  simp only [meas,kidsAt_of h1 h2 h3,kidsAt_of h1' h2 h3]
  split
  ·rfl
  ·have key:∀ {L:List Child} {hi:Option Bytes} {ps:List Pair} {i2:List Int},Seg (Sub M d k) L hi ps i2->SameOn M M' i2->measL f g M' k L l=measL f g M k L l:=by
    intro L
    induction L with
    | nil=>intro _ _ _ _ _;rfl
    | cons y L ih =>
     rintro hi ps i2 ⟨p1,p2,j1,j2,rfl,rfl,q1,q2⟩ hs2
     show meas f g M' k y.page l+measL f g M' k L l=meas f g M k y.page l+measL f g M k L l
     rw [meas_same q1.1 (SameOn.left hs2),ih q2 (SameOn.right hs2)]
   have:=key h6 (λ i hi=>hs i (by rw [h7];exact List.mem_cons_of_mem _ hi))
   exact this
end Go.Ev
namespace Go.Ev
open Go.RowKit
variable {P:Program} {l n:Nat}
theorem wpListIn_append_at {w:World} {ops:Array Oper} {rest:List Oper} {o:Oper} {a:Act} {Q:Exit->Act->World->Prop} (hgd:o.guard=none) (s x:Operand) (t:TypeId)
  (ho:o.op=.call { callee:=.builtin .append,args:=#[s,x],argTypes:=#[t,t] })
  (base:Nat) (e:TypeId) (i:TypeInfo) (z:Value) (size bytes:Nat) (ht:P.underlying t=some (.slice e)) (hi:P.info? e=some i) (hz:i.zero=some z)
  (hsize:i.size=size) (hby:i.bytes=bytes) (hzs:z.cells.size=size) (hsz:0<size)
  (v:Value) (k:Nat) (xs:List Value) (hs:a.eval s=v) (hown:w.ownsRow base e size v k xs)
  (ad:Addr) (m c:Nat) (news:List Value) (hx:a.eval x=.slice (some ad) m c) (hl:news.length=m*size) (hnews:∀ j u,news[j]? = some u->w.cell? (ad.add j)=some u) (h1:∀ u∈news,u.oneCell'=true)
  (h63:k+m<=maxLen) (hbytes:(k+m)*bytes<=140737488355328) (hbase:base<=w.heap.size)
  (h:∀ v' w',w'.ownsRow base e size v' (k+m) (xs++news)->w.grownBy w' v.ownBlock->(∀ j,v'.ownBlock=some j->v.ownBlock=some j\/w.heap.size<=j)->wpListIn (wideR l) n P ops Q rest (a.put o.dst v') w'):wpListIn (wideR l) n P ops Q (o :: rest) a w:=
 wpListIn_plain hgd λ _ hK=>oper_round (λ c=>by rw [ho];intro e;cases e) (wp_append_at s x t ho base e i z size bytes ht hi hz hsize hby hzs hsz v k xs hs hown ad m c news hx hl hnews h1 h63 hbytes hbase λ v' w' h2 h3 h4=>hK _ _ (h v' w' h2 h3 h4))
variable {F:Fence} {n:Nat} {P:Program}
def EachS {α:Type} (F:Fence) (n:Nat) (P:Program) (g:Nat) (lb:Array Value) (encs:α->Array Value) (Kp:World->World->Prop) (xs:List α) (w:World):Prop:=
 ∀ (l:Nat) (J Jx:Nat->World->Prop) (W:World),Below w.heap.size w W →
  (∀ (k:Nat) (x:α) (W1:World),xs[k]? = some x->J k W1->YieldAt F (n-1) P l (encs x) W1 λ e W'=>(e=.returned (.bool true)/\J (k+1) W'/\Kp W1 W')\/(e=.returned (.bool false)/\Jx (k+1) W')) →
  J 0 W->CallsIn F n P g (#[.func (.yield l) #[] #[]]++lb) W λ e W'=>(∃ v,e=.returned v)/\(J xs.length W'\/∃ k,k<=xs.length/\Jx k W')
def goesOnS (B:Nat) (Kp:World->World->Prop) (I Ix:World->Prop) (W:World):Exit->Act->World->Prop
 | .normal,_,W'=>KeepsFrom B W W'/\Kp W W'/\I W'
 | .ret,_,W'=>KeepsFrom B W W'/\Ix W'
 | _,_,_=>False
theorem rangeFunc_eachS {α:Type} {g:Operand} {ps:Array Tmp} {assign body:Code} {Q:Exit->Act->World->Prop} {a:Act} {w:World} {gf:Nat} {lb:Array Value} {encs:α->Array Value} {Kp:World->World->Prop} {xs:List α}
  (hro:F.round=none) (h1:1<=n) (hg:a.eval g=.func (.func gf) #[] lb) (hF:F.fn gf) (eg:∀ args w,(callFunc gf args).run P w=.ok (.enter gf args) w) (hseq:EachS F (n-1) P gf lb encs Kp xs w)
  (hKt:∀ {A B C:World},Kp A B->Kp B C->Kp A C) (hKb:∀ (W:World) (l:Nat) (o o':Obj),w.heap.size<=l->W.heap[l]? = some o->o.isCells=false->o.isWalk=false->Kp W (W.putObj l o')) (hps:∀ x,(encs x).size=ps.size)
  (I Ix:Nat->World->Prop) (hI:OwnFrom w.heap.size I) (hIx:OwnFrom w.heap.size Ix) (h0:I 0 w) (Ax:α->Act->World->Prop) (hAx:∀ x a',OwnFrom w.heap.size (λ (_:Unit) W=>Ax x a' W))
  (hassign:∀ (l k:Nat) (x:α) (W:World) (K:Act->World->Prop),xs[k]? = some x->I k W->(∀ a' W',KeepsFrom w.heap.size W W'->Kp W W'->I k W'->Ax x a' W'->K a' W') →
   assign.wpIn (F.inRound l) (n-1-1) P (Exit.then K (λ _ _ _=>False)) { tmps:=(ps.zip (encs x)).foldl (λ t (p,v)=>t.setIfInBounds p v) a.tmps,defers:=[] } W)
  (hbody:∀ (l k:Nat) (x:α) (a':Act) (W:World),xs[k]? = some x->I k W->Ax x a' W->body.wpIn (F.inRound l) (n-1-1) P (goesOnS w.heap.size Kp (I (k+1)) (Ix (k+1)) W) a' W)
  (hdone:∀ (D:Nat) (W:World),w.heap.size<=D->I xs.length W->W.heap[D]? = some (.deferred (some []))->Q .normal { a with defers:={ target:=.collected D,args:=#[] } :: a.defers } W)
  (hstop:∀ (D k:Nat) (W:World),w.heap.size<=D->k<=xs.length->Ix k W->W.heap[D]? = some (.deferred (some []))->Code.ret.wpIn F n P Q { a with defers:={ target:=.collected D,args:=#[] } :: a.defers } W) :
  (Code.rangeFunc g ps assign body).wpIn F n P Q a w:=by
 refine wpIn_rangeFunc λ fn hfn=>?_
 rw [hro]
 -- the loop's record in its states; the block of the deferred calls is D, the record's is D + 1
 obtain ⟨D,hD⟩:∃ D,D=w.heap.size:=⟨_,rfl⟩
 obtain ⟨R0,hR0⟩:∃ R0:LoopState->Option Code->Loop,R0=λ st pe=>{ state:=st,pending:=pe,fn,tmps:=a.tmps,params:=ps,assign,body,defers:=D }:=⟨_,rfl⟩
 obtain ⟨R,hR⟩:∃ R:LoopState->Loop,R=λ st=>R0 st none:=⟨_,rfl⟩
 rw [hR0] at hR
 obtain ⟨W1,hW1⟩:=nmz ((w.alloc (.deferred (some []))).alloc (.loop (R .ready)))
 have hl1:W1.heap[D+1]? = some (.loop (R .ready)):=by
  have:=World.alloc_heap_new (w.alloc (.deferred (some []))) (.loop (R .ready))
  rw [World.size_alloc,hW1] at this
  rw [hD];exact this
 have hd1:W1.heap[D]? = some (.deferred (some [])):=by
  rw [<- hW1,hD];exact (Below.heap_alloc _ _ _ (by simp)).trans (World.alloc_heap_new w _)
 have hi1:I 0 W1:=by rw [<- hW1];exact hI.alloc _ (hI.alloc _ h0)
 have hb1:Below w.heap.size w W1:=by rw [<- hW1];exact ((Below.refl _ w).alloc (Nat.le_refl _) _).alloc (by simp) _
 refine ⟨D+1,[{ target:=.collected D,args:=#[] }],W1,{ target:=.fn (.func gf) lb,args:=#[.func (.yield (D+1)) #[] #[]] },W1,gf,#[.func (.yield (D+1)) #[] #[]]++lb,W1,?_,?_,?_,?_,λ _=>h1,?_⟩
 ·rw [<- hW1,hR,hD];exact run_enterLoop_outer _ _ _ _ _
 ·simp only [resolve,hg]
  simp [go_sem]
 ·intro f' hf';simp [Target.leads] at hf';subst hf';exact hF
 ·simp [invoke,go_sem,eg]
 refine (hseq (D+1) (λ k W=>I k W/\W.heap[D+1]? = some (.loop (R .ready))/\W.heap[D]? = some (.deferred (some []))) (λ k W=>Ix k W/\W.heap[D+1]? = some (.loop (R0 .done (some .ret)))/\W.heap[D]? = some (.deferred (some []))) W1 hb1 ?_ ⟨hi1,hl1,hd1⟩).mono ?_
 ·-- a round
  rintro k x W hx ⟨hi,hl,hd⟩
  have hy:=run_yield (P:=P) (args:=encs x) hl (by rw [hR];exact hps x)
  rw [hR] at hy
  refine ⟨fn,_,assign,body,hy,roundIn_of_wpIn hfn (hassign _ k x W _ hx hi ?_)⟩
  intro a' Wa hka hpa hia hax
  have hla:=hka.same _ _ (by omega) hl rfl
  have hda:=hka.same _ _ (by omega) hd rfl
  have hlta:D+1<Wa.heap.size:=(Array.getElem?_eq_some_iff.1 hla).1
  refine ⟨_,run_beginRound hla (by rw [hR]),?_⟩
  have hlb:(Wa.putObj (D+1) (.loop { R .ready with state:=.busy })).heap[D+1]? = some (.loop { R .ready with state:=.busy }):=World.putObj_heap_same hlta
  have hdb:(Wa.putObj (D+1) (.loop { R .ready with state:=.busy })).heap[D]? = some (.deferred (some [])):=(World.putObj_heap_other (by omega)).trans hda
  have hpb:Kp Wa (Wa.putObj (D+1) (.loop { R .ready with state:=.busy })):=hKb _ _ _ _ (by omega) hla rfl rfl
  refine wpIn_mono (hbody _ k x a' _ hx (hI.putObj _ hia (by omega) hla rfl) ((hAx x a').putObj (s:=()) _ hax (by omega) hla rfl)) ?_
  rintro e a3 W3 hp
  cases e with
  | normal =>
   obtain ⟨hk3,hp3,hi3⟩:=hp
   have hl3:=hk3.same _ _ (by omega) hlb rfl
   have hd3:=hk3.same _ _ (by omega) hdb rfl
   have hr:=run_endRound (P:=P) none hl3
   rw [hR] at hr hl3
   refine ⟨_,_,hr,.inl ⟨rfl,⟨hI.putObj _ hi3 (by omega) hl3 rfl,?_,(World.putObj_heap_other (by omega)).trans hd3⟩,hKt hpa (hKt (hKt hpb hp3) (hKb _ _ _ _ (by omega) hl3 rfl rfl))⟩⟩
   rw [World.putObj_heap_same (Array.getElem?_eq_some_iff.1 hl3).1,hR]
   rfl
  | ret =>
   obtain ⟨hk3,hi3⟩:=hp
   have hl3:=hk3.same _ _ (by omega) hlb rfl
   have hd3:=hk3.same _ _ (by omega) hdb rfl
   have hr:=run_endRound (P:=P) (some .ret) hl3
   rw [hR] at hr hl3
   refine ⟨_,_,hr,.inr ⟨rfl,hIx.putObj _ hi3 (by omega) hl3 rfl,?_,(World.putObj_heap_other (by omega)).trans hd3⟩⟩
   rw [World.putObj_heap_same (Array.getElem?_eq_some_iff.1 hl3).1,hR0]
   rfl
  | exit id=>exact hp.elim
  | goto t=>exact hp.elim
  | panic ch=>exact hp.elim
  | outgrown=>exact hp.elim
 ·-- behind the iterator
  rintro e W2 ⟨⟨v,rfl⟩,(⟨hi,hl,hd⟩ | ⟨k,hk,hi,hl,hd⟩)⟩
  ·have hr:=run_endLoop (P:=P) hl (by rw [hR];simp)
   rw [hR] at hr
   exact ⟨none,_,hr,hdone D _ (by omega) (hI.putObj _ hi (by omega) hl rfl) ((World.putObj_heap_other (by omega)).trans hd)⟩
  ·have hr:=run_endLoop (P:=P) hl (by rw [hR0];simp)
   rw [hR0] at hr
   exact ⟨some .ret,_,hr,hstop D k _ (by omega) hk (hIx.putObj _ hi (by omega) hl rfl) ((World.putObj_heap_other (by omega)).trans hd)⟩
theorem run_append_stays {P:Program} (w:World) {base:Nat} {t ty e:TypeId} {i:TypeInfo} {z:Value} {size bytes:Nat} (ht:P.underlying t=some (.slice e)) (hi:P.info? e=some i) (hz:i.zero=some z)
  (hsize:i.size=size) (hby:i.bytes=bytes) (hzs:z.cells.size=size) (hsz:0<size) {g n cap:Nat} {xs:List Value} (hown:w.ownsRow base e size (.slice (some ⟨g,0,none⟩) n cap) n xs)
  {a:Addr} {m c:Nat} {news:List Value} (hl:news.length=m*size) (hnews:∀ j u,news[j]? = some u->w.cell? (a.add j)=some u) (h1:∀ u∈news,u.oneCell'=true) (hroom:n+m<=cap)
  (h63:n+m<=maxLen) (hbytes:(n+m)*bytes<=140737488355328) (hbase:base<=w.heap.size) :
  ∃ w',(Builtin.append_ #[t,t] ty #[.slice (some ⟨g,0,none⟩) n cap,.slice (some a) m c]).run P w=.ok (.slice (some ⟨g,0,none⟩) (n+m) cap) w'/\w'.ownsRow base e size (.slice (some ⟨g,0,none⟩) (n+m) cap) (n+m) (xs++news)/\w.grownBy w' (some g):=by
 obtain ⟨v',w',hr,h2,h3,_⟩:=run_append_own (P:=P) w base t ty e i z size bytes ht hi hz hsize hby hzs hsz _ n xs hown a m c news hl hnews h1 h63 hbytes hbase
 rcases hown.2 with ⟨e0,_⟩ | ⟨g',cap',cur,e0,hbg,hg,hnc,hcm,hcs,htake⟩
 ·cases e0
 ·simp only [Value.slice.injEq,Option.some.injEq,Addr.mk.injEq,and_true,true_and] at e0
  obtain ⟨rfl,rfl⟩:=e0
  subst hsize
  have hr2:=run_append_room (P:=P) w t ty e i ht hi g n cap cur hg a m c news hl hnews h1 hroom (by rw [hl,hcs,<- Nat.add_mul];exact Nat.mul_le_mul_right _ hroom)
  rw [hr] at hr2
  simp only [Result.ok.injEq] at hr2
  obtain ⟨rfl,_⟩:=hr2
  exact ⟨w',hr,h2,h3⟩
theorem setCells_size {g:Nat}:∀ (vs:List Value) (o:Nat) (w:World),(w.setCells g o vs).heap.size=w.heap.size
 | [],_,_=>rfl
 | v :: vs,o,w=>by
  show ((w.setCell ⟨g,o,none⟩ v).setCells g (o+1) vs).heap.size=_
  rw [setCells_size vs]
  simp [World.setCell]
theorem setCells_shape {g:Nat} {e:TypeId}:∀ (vs:List Value) (o:Nat) (w:World) (cur:Array Value),w.heap[g]? = some (.cells cur e (0,0))->∃ cur',(w.setCells g o vs).heap[g]? = some (.cells cur' e (0,0))/\cur'.size=cur.size
 | [],_,_,cur,h=>⟨cur,h,rfl⟩
 | v :: vs,o,w,cur,h=>by
  have h1:Blk w g e cur:=h
  obtain ⟨cur',h2,h3⟩:=setCells_shape vs (o+1) (w.setCell ⟨g,o,none⟩ v) _ (h1.set o v)
  exact ⟨cur',h2,by rw [h3];simp⟩
theorem setCells_frm {g:Nat}:∀ (vs:List Value) (o:Nat) (w:World),Keeps (λ k=>k=g) w (w.setCells g o vs)
 | [],_,w=>Keeps.refl _ w
 | v :: vs,o,w=>((Keeps.refl (λ k=>k=g) w).setCell (p:=⟨g,o,none⟩) (λ _=>rfl) v).trans (setCells_frm vs (o+1) _) λ _ _ e=>e
theorem own_beyond {w:World} {base size g n cap o:Nat} {e:TypeId} {xs vs:List Value} (h:w.ownsRow base e size (.slice (some ⟨g,0,none⟩) n cap) n xs) (ho:n*size<=o):(w.setCells g o vs).ownsRow base e size (.slice (some ⟨g,0,none⟩) n cap) n xs:=by
 have hcells:=h.cells (g:=g) rfl
 refine ⟨h.1,?_⟩
 rcases h.2 with ⟨e0,_⟩ | ⟨g',cap',cur,e0,hbg,hg,hnc,hcm,hcs,htake⟩
 ·cases e0
 ·simp only [Value.slice.injEq,Option.some.injEq,Addr.mk.injEq,and_true,true_and] at e0
  obtain ⟨rfl,rfl⟩:=e0
  obtain ⟨cur',h2,h3⟩:=setCells_shape vs o w cur hg
  refine .inr ⟨g,cap,cur',rfl,hbg,h2,hnc,hcm,by rw [h3,hcs],?_⟩
  refine List.ext_getElem? λ j=>?_
  rw [List.getElem?_take]
  by_cases hj:j<n*size
  ·rw [if_pos hj,Array.getElem?_toList,<- cell_of_row _ g j cur' e (0,0) h2,World.cell?_setCells_out g vs o w ⟨g,j,none⟩ (λ _ _=>.inl (by show j<o;omega))]
   have hx:j<xs.length:=by rw [h.1];exact hj
   have:=hcells j xs[j] (List.getElem?_eq_getElem hx)
   rw [addr_add,Nat.zero_add] at this
   rw [this,List.getElem?_eq_getElem hx]
  ·rw [if_neg hj,List.getElem?_eq_none (by rw [h.1];omega)]
theorem own_front {w:World} {base size g n cap i:Nat} {e:TypeId} {xs:List Value} (h:w.ownsRow base e size (.slice (some ⟨g,0,none⟩) n cap) n xs) (hi:i<=n):w.ownsRow base e size (.slice (some ⟨g,0,none⟩) i cap) i (xs.take (i*size)):=by
 have hm:i*size<=n*size:=Nat.mul_le_mul_right _ hi
 refine ⟨by rw [List.length_take,h.1];omega,?_⟩
 rcases h.2 with ⟨e0,_⟩ | ⟨g',cap',cur,e0,hbg,hg,hnc,hcm,hcs,htake⟩
 ·cases e0
 ·simp only [Value.slice.injEq,Option.some.injEq,Addr.mk.injEq,and_true,true_and] at e0
  obtain ⟨rfl,rfl⟩:=e0
  refine .inr ⟨g,cap,cur,rfl,hbg,hg,by omega,hcm,hcs,?_⟩
  rw [<- htake,List.take_take,Nat.min_eq_left hm]
theorem run_clear_one {P:Program} (w:World) (t e ty:TypeId) (z:Value) (ht:P.underlying t=some (.slice e)) (hv:∀ w,(zeroValue e).run P w=.ok z w) (h1:∀ v∈z.cells.toList,v.oneCell'=true) (b o c:Nat)
  (hc:∀ j,j<z.cells.size->(w.cell? ⟨b,o+j,none⟩).isSome=true) (hf:∀ j,j<z.cells.size->w.frozen? ⟨b,o+j,none⟩=false) :
  (Builtin.clear_ #[t] ty #[.slice (some ⟨b,o,none⟩) 1 c]).run P w=.ok (.tuple #[]) (w.setCells b o z.cells.toList):=by
 have hzc:(Builtin.zeroCells z.cells 1).toList=z.cells.toList:=by
  apply List.ext_getElem
  ·simp [Builtin.zeroCells]
  ·intro i h1 h2
   have hlt:i<z.cells.size:=by simpa using h2
   have e1:(Builtin.zeroCells z.cells 1)[i]'(by simpa using h1)=z.cells[i % z.cells.size]!:=by simp [Builtin.zeroCells]
   rw [Array.getElem_toList,Array.getElem_toList,e1,Nat.mod_eq_of_lt hlt]
   exact getElem!_pos z.cells i hlt
 have hst:=run_storeCells_cells (P:=P) b o z.cells.toList 0 w (by simpa using hc) (by simpa using hf) h1
 simp only [Nat.add_zero] at hst
 simp [Builtin.clear_,run_underlying ht,hv,hzc,hst]
theorem wp_append_eq {P:Program} {w w':World} {o:Oper} {a:Act} {K:Act->World->Prop} {Q:Exit->Act->World->Prop} (s x:Operand) (t:TypeId) {v y v':Value}
  (ho:o.op=.call { callee:=.builtin .append,args:=#[s,x],argTypes:=#[t,t] }) (hs:a.eval s=v) (hx:a.eval x=y) (hr:(Builtin.append_ #[t,t] o.type #[v,y]).run P w=.ok v' w') (h:K (a.put o.dst v') w'):o.wp P a w K Q:=by
 unfold Oper.wp execOp
 simp only [ho,resolve,invoke,builtin,Sem.run_bind,Sem.run_pure,Result.andThen_ok,List.map_toArray,List.map_cons,List.map_nil,hs,hx]
 rw [hr]
 exact h
open Go.ChangeShapes Go.Deep Go.Joins Go.WideShapes
theorem flat_len {α:Type} {f:α->List Value} {z:Nat} (hf:∀ a,(f a).length=z):∀ l:List α,(l.flatMap f).length=l.length*z
 | []=>by simp
 | a :: l=>by rw [List.flatMap_cons,List.length_append,hf,flat_len hf l,List.length_cons,Nat.succ_mul];omega
theorem flat_at {α:Type} {f:α->List Value} {z:Nat} (hf:∀ a,(f a).length=z):∀ (l:List α) (k r:Nat) (hk:k<l.length),r<z->(l.flatMap f)[k*z+r]? = (f l[k])[r]?
 | a :: l,0,r,_,hr=>by rw [List.flatMap_cons,Nat.zero_mul,Nat.zero_add,List.getElem?_append_left (by rw [hf];exact hr)];rfl
 | a :: l,k+1,r,h,hr=>by
  rw [List.flatMap_cons,List.getElem?_append_right (by rw [hf,Nat.succ_mul];omega),hf,show (k+1)*z+r-z=k*z+r by rw [Nat.succ_mul];omega]
  exact flat_at hf l k r (by simpa using h) hr
section
variable {H:Type} {enc:TypeId × Value->H} {P:Program} {w:World} {base:Nat} {spare:Nat->Bool} {held:Bool}
theorem slice_rows {α:Type} {f:α->List Value} {Q:α->Prop} {t e:TypeId} {z fuel:Nat} {v:Value} {y:DataW H × List MemPlace} (ht:P.underlying t=some (.slice e)) (hC:P.cellsOf e=z) (hpos:0<z) (hf:∀ a,(f a).length=z)
  (he:∀ n' cs x,cs.length=z->DataW.trod enc P w base spare held n' e cs=some x->∃ a,cs=f a/\Q a) (h:DataW.trod enc P w base spare held fuel t [v]=some y):∃ l:List α,Sl w z v l.length (l.flatMap f)/\l.length<=maxLen/\∀ a∈l,Q a:=by
 rcases open_slice ht h with ⟨e0,_⟩ | ⟨a,len,cap,m,n,D,Pl,e0,hb,hl,hm,hmm,hx,hi⟩
 ·simp only [List.cons.injEq,and_true] at e0
  subst e0
  exact ⟨[],Sl.nil ..,Nat.zero_le _,λ o ho=>by cases ho⟩
 ·simp only [List.cons.injEq,and_true] at e0
  subst e0
  have hlm:len<=m:=by rw [hmm];split<;>omega
  rcases Nat.eq_zero_or_pos len with hz0 | hz0
  ·subst hz0
   exact ⟨[],Sl.nil ..,Nat.zero_le _,λ o ho=>by cases ho⟩
  rw [hC] at hi
  have hsp:a.spot=none/\a.block<w.heap.size:=by
   obtain ⟨cs',q1,q2⟩:=hi 0 (by omega)
   obtain ⟨_,hlen,hat⟩:=World.cells?_some q1
   have q3:=hat 0 (by omega)
   rw [List.getElem?_eq_getElem (by omega)] at q3
   simp [Addr.add] at q3
   unfold World.cell? at q3
   split at q3
   ·rename_i c e' fz hq
    split at q3
    ·cases q3
    ·rename_i hs'
     exact ⟨by simpa using hs',(Array.getElem?_eq_some_iff.1 hq).1⟩
   ·cases q3
  obtain ⟨bl,of,sp⟩:=a
  obtain ⟨hsp,hbl⟩:=hsp
  simp only at hsp
  subst hsp
  have hop:∀ j,j<len->∃ o:α,Q o/\∀ r u,(f o)[r]? = some u->w.cell? ⟨bl,of+(j*z+r),none⟩=some u:=by
   intro j hj
   obtain ⟨cs',q1,q2⟩:=hi j (by omega)
   obtain ⟨_,hlen,hat⟩:=World.cells?_some q1
   obtain ⟨o,rfl,hq⟩:=he _ _ _ hlen q2
   refine ⟨o,hq,λ r u hu=>?_⟩
   have hr:r<z:=by rw [<- hlen];exact (List.getElem?_eq_some_iff.1 hu).1
   have q7:=hat r hr
   rw [hu,addr_add,addr_add,Nat.add_assoc] at q7
   exact q7
  obtain ⟨l,hlen,hl'⟩:∃ l:List α,l.length=len/\∀ j (hj:j<l.length),Q l[j]/\∀ r u,(f l[j])[r]? = some u->w.cell? ⟨bl,of+(j*z+r),none⟩=some u:=by
   refine ⟨List.ofFn λ j:Fin len=>(hop j.1 j.2).choose,by simp,λ j hj=>?_⟩
   have hj':j<len:=by simpa using hj
   have:=(hop j hj').choose_spec
   simpa using this
  subst hlen
  refine ⟨l,⟨_,_,rfl,hl,flat_len hf l,λ _=>⟨bl,of,rfl,hbl,λ j u hu=>?_⟩⟩,Nat.le_trans hl hm,λ o ho=>?_⟩
  ·have hj:j<l.length*z:=by rw [<- flat_len hf l];exact (List.getElem?_eq_some_iff.1 hu).1
   have hd:j / z<l.length:=Nat.div_lt_of_lt_mul (by rw [Nat.mul_comm];exact hj)
   have hr:j % z<z:=Nat.mod_lt _ hpos
   have hjj:j / z*z+j % z=j:=by rw [Nat.mul_comm];exact Nat.div_add_mod j z
   rw [<- hjj,flat_at hf l _ _ hd hr] at hu
   have:=(hl' _ hd).2 _ _ hu
   rwa [hjj] at this
  ·obtain ⟨j,hj,rfl⟩:=List.getElem_of_mem ho
   exact (hl' j hj).1
end
end Go.Ev
namespace Go.Ev
open Go.RowKit
theorem wp_append_sl {P:Program} {w:World} {o:Oper} {a:Act} {K:Act->World->Prop} {Q:Exit->Act->World->Prop} (s x:Operand) (t:TypeId)
  (ho:o.op=.call { callee:=.builtin .append,args:=#[s,x],argTypes:=#[t,t] })
  (base:Nat) (e:TypeId) (i:TypeInfo) (z:Value) (size bytes:Nat) (ht:P.underlying t=some (.slice e)) (hi:P.info? e=some i) (hz:i.zero=some z)
  (hsize:i.size=size) (hby:i.bytes=bytes) (hzs:z.cells.size=size) (hsz:0<size)
  (v:Value) (n:Nat) (xs:List Value) (hs:a.eval s=v) (hown:w.ownsRow base e size v n xs)
  (A:Option Addr) (m c:Nat) (news:List Value) (hx:a.eval x=.slice A m c) (hsl:Sl w size (.slice A m c) m news) (hA:A=none->c=0) (h1:∀ u∈news,u.oneCell'=true)
  (h63:n+m<=maxLen) (hbytes:(n+m)*bytes<=140737488355328) (hbase:base<=w.heap.size)
  (h:∀ v' w',w'.ownsRow base e size v' (n+m) (xs++news)->w.grownBy w' v.ownBlock->K (a.put o.dst v') w'):o.wp P a w K Q:=by
 obtain ⟨A',c',e0,h0,h2,h3⟩:=hsl
 cases e0
 cases A with
 | none =>
  have hm:m=0:=by
   by_cases hp:0<m
   ·obtain ⟨_,_,he,_⟩:=h3 hp;cases he
   ·omega
  subst hm
  have hc:=hA rfl
  subst hc
  have hn:news=[]:=List.eq_nil_of_length_eq_zero (by simpa using h2)
  subst hn
  have hrun:=run_append_owned_none (P:=P) (w:=w) base t o.type e i size ht hi v n xs hown
  have hk:=h v w (by simpa using hown) ⟨rfl,rfl,rfl,Nat.le_refl _,λ _ _ _=>rfl⟩
  unfold Oper.wp
  simp [execOp,ho,resolve,invoke,builtin,hs,hx,hrun,Result.andThen]
  exact hk
 | some ad =>
  refine wp_append_at s x t ho base e i z size bytes ht hi hz hsize hby hzs hsz v n xs hs hown ad m c news hx h2 (λ j u hu=>?_) h1 h63 hbytes hbase λ v' w' h4 h5 _=>h v' w' h4 h5
  have hj:=(List.getElem?_eq_some_iff.1 hu).1
  have hm:0<m:=by
   cases m with
   | zero=>rw [h2] at hj;simp at hj
   | succ m=>omega
  obtain ⟨b,o',he,_,h6⟩:=h3 hm
  cases he
  rw [addr_add]
  exact h6 j u hu
open Go.ChangeShapes Go.Deep Go.Joins Go.WideShapes
def hdInt (P:Program) (f:Field):Bool:=match P.underlying f.type with | some (.int .i64)=>true | _=>false
def hdB (P:Program) (t:TypeId):Bool:=P.cellsOf t==3 && match P.underlying t with
 | some (.struct fs)=>oneCellFields P fs && match fs.toList with
  | [f0,f1,f2]=>hdInt P f0 && hdInt P f1 && hdInt P f2
  | _=>false
 | _=>false
theorem hdInt_of {P:Program} {f:Field} (h:hdInt P f=true):P.underlying f.type=some (.int .i64):=by
 unfold hdInt at h;split at h<;>simp_all
section
variable {H:Type} {enc:TypeId × Value->H} {P:Program} {w:World} {base:Nat} {spare:Nat->Bool} {held:Bool}
theorem hd_int {t:TypeId} (ht:P.underlying t=some (.int .i64)) {n:Int} (hn:(Lit.int .i64 n).wf=true) (m:Nat):DataW.trod enc P w base spare held (m+1) t [.int .i64 n]=some (.lit (.int .i64 n),[]):=by simp [DataW.trod,ht,hn]
theorem open_hard {r:Reach} {b0:Nat} {t:TypeId} {v:Value} {d:DataW H} {p:List MemPlace} (hB:hdB P t=true) (hv:Value.okWide P w r b0 t v) (h:DataW.Trod enc P w base spare held t v d p) :
  ∃ (k s q:Int),v=.agg #[.int .i64 k,.int .i64 s,.int .i64 q]/\p=[]/\(Lit.int .i64 k).wf=true/\(Lit.int .i64 s).wf=true/\(Lit.int .i64 q).wf=true ∧
   ∀ (w':World) (base':Nat) (spare':Nat->Bool) (held':Bool),DataW.Trod enc P w' base' spare' held' t v d []:=by
 unfold hdB at hB
 simp only [Bool.and_eq_true,beq_iff_eq] at hB
 obtain ⟨hC,hB⟩:=hB
 split at hB
 ·rename_i fs hs
  simp only [Bool.and_eq_true] at hB
  obtain ⟨hone,hB⟩:=hB
  split at hB
  ·rename_i f0 f1 f2 hf
   simp only [Bool.and_eq_true] at hB
   obtain ⟨⟨i0,i1⟩,i2⟩:=hB
   obtain ⟨l⟩:=fs
   simp at hf
   subst hf
   obtain ⟨cs,rfl,hsz⟩:=okWide_struct hs hv
   obtain ⟨cl⟩:=cs
   rw [hC] at hsz
   match cl,hsz with
   | [c0,c1,c2],_ =>
    obtain ⟨fuel,hf⟩:=h
    obtain ⟨xs,n,_,hx,_,hlen,hg⟩:=DataW.trod_struct hs hf
    obtain ⟨o0,k0⟩:=hone_of hone 0 f0 rfl
    obtain ⟨o1,k1⟩:=hone_of hone 1 f1 rfl
    obtain ⟨o2,k2⟩:=hone_of hone 2 f2 rfl
    match xs,hlen with
    | [y0,y1,y2],_ =>
     have g0:DataW.trod enc P w base spare held n f0.type [c0]=some y0:=by simpa [Value.cells,o0,k0] using hg 0 f0 rfl
     have g1:DataW.trod enc P w base spare held n f1.type [c1]=some y1:=by simpa [Value.cells,o1,k1] using hg 1 f1 rfl
     have g2:DataW.trod enc P w base spare held n f2.type [c2]=some y2:=by simpa [Value.cells,o2,k2] using hg 2 f2 rfl
     obtain ⟨k,e0,rfl,w0⟩:=DataW.trod_int (hdInt_of i0) g0
     obtain ⟨s,e1,rfl,w1⟩:=DataW.trod_int (hdInt_of i1) g1
     obtain ⟨q,e2,rfl,w2⟩:=DataW.trod_int (hdInt_of i2) g2
     simp only [List.cons.injEq,and_true] at e0 e1 e2
     subst e0 e1 e2
     simp only [Prod.mk.injEq,List.map_cons,List.map_nil,List.flatMap_cons,List.flatMap_nil,List.append_nil] at hx
     obtain ⟨rfl,rfl⟩:=hx
     refine ⟨k,s,q,rfl,rfl,w0,w1,w2,λ w' base' spare' held'=>⟨2,?_⟩⟩
     have:=trod_struct_mk (enc:=enc) (w:=w') (base:=base') (spare:=spare') (held:=held') (n:=1) (cs:=[.int .i64 k,.int .i64 s,.int .i64 q])
      (xs:=[(.lit (.int .i64 k),[]),(.lit (.int .i64 s),[]),(.lit (.int .i64 q),[])]) hs (by simp [hC])
      (by simp [o0,o1,o2,k0,k1,k2,hd_int (hdInt_of i0) w0 0,hd_int (hdInt_of i1) w1 0,hd_int (hdInt_of i2) w2 0])
     simpa [Value.cells] using this
  ·cases hB
 ·cases hB
end
end Go.Ev
