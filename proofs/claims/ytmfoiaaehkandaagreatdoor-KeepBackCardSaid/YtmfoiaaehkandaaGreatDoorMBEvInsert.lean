/-
  Texts of this claim.
-/
import Derived.Test.YtmfoiaaehkandaaGreatDoorMBGwReader
import Derived.Deep.RegionLaw
import Derived.Ground.NamesProg
import Derived.Laws.IdiomCopy
import Derived.Shelf.SlGeneric
import Derived.Shelf.Spec.SlicesInsertGrow
import Derived.Shelf.Strconv.Clone
set_option linter.unusedVariables false
set_option linter.unusedSimpArgs false
set_option maxHeartbeats 4000000
set_option maxRecDepth 100000
namespace Go.Ev
open Go.RowKit
theorem cells_heap (b:Nat) (e:TypeId) (fr:Nat × Nat):∀ (vs:List Value) (o:Nat) (w:World) (c:Array Value),w.heap[b]? = some (.cells c e fr) →
  ∃ c',(w.setCells b o vs).heap[b]? = some (.cells c' e fr)/\c'.size=c.size/\(∀ i,i≠b->(w.setCells b o vs).heap[i]? = w.heap[i]?)/\(w.setCells b o vs).heap.size=w.heap.size ∧
   (w.setCells b o vs).os=w.os/\(w.setCells b o vs).tape=w.tape/\(w.setCells b o vs).output=w.output/\∀ j,c'[j]? = if o<=j/\j<o+vs.length/\j<c.size then vs[j-o]? else c[j]?
 | [],o,w,c,h=>⟨c,h,rfl,λ _ _=>rfl,rfl,rfl,rfl,rfl,λ j=>by rw [if_neg];simp only [List.length_nil];omega⟩
 | v :: vs,o,w,c,h=>by
  have h1:(w.setCell ⟨b,o,none⟩ v).heap[b]? = some (.cells (c.setIfInBounds o v) e fr):=by
   simp only [World.setCell]
   rw [Array.getElem?_modify,if_pos rfl,h]
   rfl
  obtain ⟨c',k1,k2,k3,k4,k5,k6,k7,k8⟩:=cells_heap b e fr vs (o+1) (w.setCell ⟨b,o,none⟩ v) _ h1
  refine ⟨c',k1,by rw [k2];simp,λ i hi=>?_,by rw [show (w.setCells b o (v :: vs))=(w.setCell ⟨b,o,none⟩ v).setCells b (o+1) vs from rfl,k4];simp [World.setCell],k5,k6,k7,λ j=>?_⟩
  ·rw [show (w.setCells b o (v :: vs))=(w.setCell ⟨b,o,none⟩ v).setCells b (o+1) vs from rfl,k3 i hi]
   simp only [World.setCell]
   rw [Array.getElem?_modify,if_neg (Ne.symm hi)]
  ·rw [k8 j]
   simp only [Array.size_setIfInBounds,List.length_cons]
   by_cases h2:o+1<=j/\j<o+1+vs.length/\j<c.size
   ·rw [if_pos h2,if_pos (by omega)]
    obtain ⟨q,hq⟩:∃ q,j-o=q+1:=⟨j-o-1,by omega⟩
    rw [hq,List.getElem?_cons_succ]
    congr 1
    omega
   ·rw [if_neg h2]
    by_cases h3:j=o
    ·subst h3
     by_cases h4:j<c.size
     ·rw [if_pos (by omega)]
      simp [h4]
     ·rw [if_neg (by omega),Array.getElem?_setIfInBounds]
      simp [h4]
    ·rw [if_neg (by omega),Array.getElem?_setIfInBounds_ne (Ne.symm h3)]
theorem ins_cells {α:Type} (old new:List α) (i n m:Nat) (hi:i<=n) (ho:old.length=n) (hn:new.length=m) (j:Nat) :
  (old.take i++(new++old.drop i))[j]? = if j<i then old[j]? else if j<i+m then new[j-i]? else old[j-m]?:=by
 by_cases h1:j<i
 ·rw [if_pos h1,List.getElem?_append_left (by rw [List.length_take];omega),List.getElem?_take,if_pos h1]
 ·rw [if_neg h1,List.getElem?_append_right (by rw [List.length_take];omega)]
  have hl:(old.take i).length=i:=by rw [List.length_take];omega
  rw [hl]
  by_cases h2:j<i+m
  ·rw [if_pos h2,List.getElem?_append_left (by omega)]
  ·rw [if_neg h2,List.getElem?_append_right (by omega),List.getElem?_drop]
   congr 1
   omega
theorem Keeps.setCells {S:Nat->Prop} {w a:World} (h:Keeps S w a) {b:Nat} (hb:b<w.heap.size->S b):∀ (vs:List Value) (o:Nat),Keeps S w (a.setCells b o vs)
 | [],_=>h
 | v :: vs,o=>Keeps.setCells (a:=a.setCell ⟨b,o,none⟩ v) (h.setCell (p:=⟨b,o,none⟩) hb v) hb vs (o+1)
theorem own_of {w:World} {base g n cap z:Nat} {e:TypeId} {cur:Array Value} {xs:List Value} (hg:w.heap[g]? = some (.cells cur e (0,0))) (hb:base<=g) (hn:n<=cap) (hc:cap<=maxLen) (hs:cur.size=cap*z)
  (hl:xs.length=n*z) (hx:∀ j,j<n*z->cur[j]? = xs[j]?):w.ownsRow base e z (.slice (some ⟨g,0,none⟩) n cap) n xs:=by
 refine ⟨hl,.inr ⟨g,cap,cur,rfl,hb,hg,hn,hc,hs,?_⟩⟩
 apply List.ext_getElem?
 intro j
 rw [List.getElem?_take]
 by_cases hj:j<n*z
 ·rw [if_pos hj,<- hx j hj]
  simp
 ·rw [if_neg hj,List.getElem?_eq_none (by omega)]
open Go.Lib Go.Proofs
theorem count_any (r:Nat) (R:Rd) (m:Int) (w:World) (h:RdAt w r R) :
  Calls Tryz.prog 99 #[.pointer (some ⟨r,0,none⟩),.int .i64 m] w (RdTo r w (.int .i64 (R.count m).1) (R.count m).2):=by
 have hC:Hid (R.count m=if R.var.2.e≠0 then (0,R.var.2) else if R.var.1<0 then (0,⟨R.var.2.b,4⟩) else if m<R.var.1 then (0,⟨R.var.2.b,2⟩) else (R.var.1,R.var.2)):=by
  show _=_
  unfold Rd.count
  rfl
 have hV:=var_any r R w h
 generalize R.var=V at hC hV
 obtain ⟨v,R1⟩:=V
 dsimp only at hC hV
 generalize hq:R.count m=q at *
 clear hq
 by_cases he:R1.e=0
 ·have hoff:R1.off=false:=by simp [Rd.off,he]
  have hC':Hid (q=if v<0 then (0,⟨R1.b,4⟩) else if m<v then (0,⟨R1.b,2⟩) else (v,R1)):=by
   show _=_
   rw [hC.out,if_neg (by simp [he])]
  clear hC he
  by_cases h0:v<0
  ·obtain rfl:=hC'.out.trans (if_pos h0)
   clear hC'
   go_enter Tryz.func99,Tryz.ntmps99
   go_wp2_with (first
    | (go_at_call 97;refine hV.mono ?_;rintro e w1 ⟨rfl,h1,K1⟩;have c1:=h1.c1;have f1:=h1.f1)
    | (go_at_call 152;refine (off_any _ _ _ h1).mono ?_;rintro e w2 ⟨rfl,rfl⟩))
   go_ret
   exact ⟨rfl,h1.setE _,K1.setCell (λ _=>rfl) _⟩
  ·by_cases hm:m<v
   ·obtain rfl:=hC'.out.trans ((if_neg h0).trans (if_pos hm))
    clear hC'
    go_enter Tryz.func99,Tryz.ntmps99
    go_wp2_with (first
     | (go_at_call 97;refine hV.mono ?_;rintro e w1 ⟨rfl,h1,K1⟩;have c1:=h1.c1;have f1:=h1.f1)
     | (go_at_call 152;refine (off_any _ _ _ h1).mono ?_;rintro e w2 ⟨rfl,rfl⟩))
    go_ret
    exact ⟨rfl,h1.setE _,K1.setCell (λ _=>rfl) _⟩
   ·obtain rfl:=hC'.out.trans ((if_neg h0).trans (if_neg hm))
    clear hC'
    go_enter Tryz.func99,Tryz.ntmps99
    go_wp2_with (first
     | (go_at_call 97;refine hV.mono ?_;rintro e w1 ⟨rfl,h1,K1⟩;have c1:=h1.c1;have f1:=h1.f1)
     | (go_at_call 152;refine (off_any _ _ _ h1).mono ?_;rintro e w2 ⟨rfl,rfl⟩))
    go_ret
    exact ⟨rfl,h1,K1⟩
 ·have hoff:R1.off=true:=by simp [Rd.off,he]
  obtain rfl:=hC.out.trans (if_pos he)
  clear hC he
  go_enter Tryz.func99,Tryz.ntmps99
  go_wp2_with (first
   | (go_at_call 97;refine hV.mono ?_;rintro e w1 ⟨rfl,h1,K1⟩;have c1:=h1.c1;have f1:=h1.f1)
   | (go_at_call 152;refine (off_any _ _ _ h1).mono ?_;rintro e w2 ⟨rfl,rfl⟩))
  go_ret
  exact ⟨rfl,h1,K1⟩
theorem text_any (r:Nat) (R:Rd) (m:Int) (w:World) (h:RdAt w r R) :
  Calls Tryz.prog 209 #[.pointer (some ⟨r,0,none⟩),.int .i64 m] w (RdTo r w (strV (R.text m).1) (R.text m).2):=by
 have hC:Hid (R.text m=if (R.count m).2.e≠0 then ([],(R.count m).2) else if ((R.count m).2.b.length:Int)<(R.count m).1 then ([],⟨(R.count m).2.b,5⟩) else ((R.count m).2.b.take (R.count m).1.toNat,⟨(R.count m).2.b.drop (R.count m).1.toNat,0⟩)):=by
  show _=_
  unfold Rd.text
  rfl
 have hV:=count_any r R m w h
 have h0:(R.count m).2.e=0->0<=(R.count m).1:=λ h=>by
  obtain ⟨_,h2,h3,_⟩:=Rd.count_ok h
  rw [h2]
  exact h3
 generalize R.count m=V at hC hV h0
 obtain ⟨v,R1⟩:=V
 dsimp only at hC hV h0
 generalize hq:R.text m=q at *
 clear hq
 by_cases he:R1.e=0
 ·have hoff:R1.off=false:=by simp [Rd.off,he]
  obtain ⟨n,rfl⟩:∃ n:Nat,v=n:=⟨v.toNat,by have:=h0 he;omega⟩
  have hC':Hid (q=if (R1.b.length:Int)<(n:Int) then ([],⟨R1.b,5⟩) else (R1.b.take n,⟨R1.b.drop n,0⟩)):=by
   show _=_
   rw [hC.out,if_neg (by simp [he])]
   rfl
  have He:=hid he
  clear hC he h0
  by_cases hm:(R1.b.length:Int)<(n:Int)
  ·obtain rfl:=hC'.out.trans (if_pos hm)
   clear hC'
   go_enter Tryz.func209,Tryz.ntmps209
   go_wp2_with (first
    | (go_at_call 99;refine hV.mono ?_;rintro e w1 ⟨rfl,h1,K1⟩;have c0:=h1.c0;have c1:=h1.c1;have f1:=h1.f1)
    | (go_at_call 152;refine (off_any _ _ _ h1).mono ?_;rintro e w2 ⟨rfl,rfl⟩))
   go_ret
   exact ⟨rfl,h1.setE _,K1.setCell (λ _=>rfl) _⟩
  ·obtain rfl:=hC'.out.trans (if_neg hm)
   clear hC'
   have hle:n<=R1.b.length:=by omega
   go_enter Tryz.func209,Tryz.ntmps209
   go_wp2_with (first
    | (go_at_call 99;refine hV.mono ?_;rintro e w1 ⟨rfl,h1,K1⟩;have c0:=h1.c0;have c1:=h1.c1;have f0:=h1.f0)
    | (go_at_call 152;refine (off_any _ _ _ h1).mono ?_;rintro e w2 ⟨rfl,rfl⟩))
   go_ret
   refine ⟨?_,?_,?_⟩
   ·show Ending.returned (.string _)=.returned (.string _)
    rw [ByteArray.extract_mk,List.drop_zero,Nat.sub_zero]
   ·rw [extract_drop]
    have:=h1.setB (b:=R1.b.drop n) (by rw [List.length_drop];have:=h1.2;omega)
    rw [He.out] at this
    exact this
   ·exact K1.setCell (λ _=>rfl) _
 ·have hoff:R1.off=true:=by simp [Rd.off,he]
  obtain rfl:=hC.out.trans (if_pos he)
  clear hC he
  go_enter Tryz.func209,Tryz.ntmps209
  go_wp2_with (first
   | (go_at_call 99;refine hV.mono ?_;rintro e w1 ⟨rfl,h1,K1⟩;have c1:=h1.c1;have f1:=h1.f1)
   | (go_at_call 152;refine (off_any _ _ _ h1).mono ?_;rintro e w2 ⟨rfl,rfl⟩))
  go_ret
  exact ⟨rfl,h1,K1⟩
theorem bool_any (r:Nat) (R:Rd) (w:World) (h:RdAt w r R) :
  Calls Tryz.prog 281 #[.pointer (some ⟨r,0,none⟩)] w (RdTo r w (.bool R.bool.1) R.bool.2):=by
 have c0:=h.c0
 have c1:=h.c1
 have f0:=h.f0
 have f1:=h.f1
 have K0:=Keeps.refl (· = r) w
 by_cases he:R.e=0
 ·have hoff:R.off=false:=by simp [Rd.off,he]
  obtain ⟨b,x⟩:=R
  dsimp only at he
  subst he
  cases b with
  | nil =>
   have hv:=hid (show Rd.bool ⟨[],0⟩=(false,⟨[],5⟩) from rfl)
   dsimp only at c0 c1
   go_enter Tryz.func281,Tryz.ntmps281
   go_wp2_with (first
    | (go_at_call 152;refine (off_any _ _ _ h).mono ?_;rintro e w1 ⟨rfl,rfl⟩))
   go_ret
   exact ⟨rfl,h.setE 5,K0.setCell (λ _=>rfl) _⟩
  | cons c t =>
   have hi:(ByteArray.mk (c :: t).toArray)[0]'(by simp [ByteArray.size])=c:=rfl
   dsimp only at c0 c1
   have hlt:=h.2
   simp only [List.length_cons] at hlt
   by_cases h1:1<c.toNat
   ·have hv:=hid (show Rd.bool ⟨c :: t,0⟩=(false,⟨c :: t,4⟩) by simp [Rd.bool,h1])
    have h1':(1:Int)<(c.toNat:Int):=by omega
    go_enter Tryz.func281,Tryz.ntmps281
    go_wp2_with (first
     | (go_at_call 152;refine (off_any _ _ _ h).mono ?_;rintro e w1 ⟨rfl,rfl⟩))
    go_ret
    exact ⟨(ret_b (congrArg Prod.fst hv.out)).symm,by rw [hv.out];exact h.setE 4,K0.setCell (λ _=>rfl) _⟩
   ·have hv:=hid (show Rd.bool ⟨c :: t,0⟩=(c.toNat==1,⟨t,0⟩) by simp [Rd.bool,h1])
    have h1':¬ (1:Int)<(c.toNat:Int):=by omega
    go_enter Tryz.func281,Tryz.ntmps281
    go_wp2_with (first
     | (go_at_call 152;refine (off_any _ _ _ h).mono ?_;rintro e w1 ⟨rfl,rfl⟩))
    go_ret
    refine ⟨?_,?_,K0.setCell (λ _=>rfl) _⟩
    ·rw [hv.out]
     show Ending.returned (.bool ((c.toNat:Int)==1))=.returned (.bool (c.toNat==1))
     congr 2
     rw [Bool.eq_iff_iff,beq_iff_eq,beq_iff_eq]
     omega
    ·rw [hv.out]
     have:=extract_drop (c :: t) 1
     simp only [List.length_cons] at this
     rw [this]
     exact h.setB (b:=t) (by omega)
 ·have hoff:R.off=true:=by simp [Rd.off,he]
  have hv:=hid (Rd.bool_off he)
  clear he
  go_enter Tryz.func281,Tryz.ntmps281
  go_wp2_with (first
   | (go_at_call 152;refine (off_any _ _ _ h).mono ?_;rintro e w1 ⟨rfl,rfl⟩))
  go_ret
  exact ⟨(ret_b (congrArg Prod.fst hv.out)).symm,by rw [hv.out];exact h,K0⟩
end Go.Ev
namespace Go.Proofs
open Go.Shelf
def Tryz.cloneL_ren:Go.Shelf.Ren:=⟨fun | 316=>208 | n=>n,fun | 9=>9 | 3=>3 | 4=>4 | 37=>159 | 0=>0 | 127=>245 | 5=>5 | n=>n,fun | n=>n⟩
theorem Tryz.cloneL:Go.Proofs.LaysM.n316 Tryz.prog Tryz.cloneL_ren:={
 mixed:=by kernel_rfl
 f316:=Tryz.func208.trans (congrArg some (by kernel_rfl))
 t0:=Tryz.underlying0
 a0:=Tryz.isAgg0
 z0:=Tryz.sizeOf0
 v0:=Tryz.zeroValue0
 t3:=Tryz.underlying3
 a3:=Tryz.isAgg3
 z3:=Tryz.sizeOf3
 v3:=Tryz.zeroValue3
 t4:=Tryz.underlying4
 a4:=Tryz.isAgg4
 z4:=Tryz.sizeOf4
 v4:=Tryz.zeroValue4
 t9:=Tryz.underlying9
 a9:=Tryz.isAgg9
 z9:=Tryz.sizeOf9
 v9:=Tryz.zeroValue9
 t37:=Tryz.underlying159
 a37:=Tryz.isAgg159
 z37:=Tryz.sizeOf159
 v37:=Tryz.zeroValue159
 t127:=Tryz.underlying245
 a127:=Tryz.isAgg245
 z127:=Tryz.sizeOf245
 v127:=Tryz.zeroValue245
 t5:=Tryz.underlying5
 a5:=Tryz.isAgg5
 z5:=Tryz.sizeOf5
 v5:=Tryz.zeroValue5
 i0:=by kernel_rfl
 i3:=by kernel_rfl
 i4:=by kernel_rfl
 i5:=by kernel_rfl
 i9:=by kernel_rfl
 i37:=by kernel_rfl
 i127:=by kernel_rfl }
end Go.Proofs
namespace Go.Ev
open Go.Proofs Go.RowKit Go.Lib
theorem clone_any (s:ByteArray) (w:World) (hlim:s.size<=281474976710656) :
  Calls Tryz.prog 151 #[.string s] w λ e w'=>e=.returned (.string s)/\Below w.heap.size w w':=by
 have hC:=Any.stringslite_Clone Tryz.cloneL s w hlim
 change Calls Tryz.prog 208 _ _ _ at hC
 have H:=hid hC
 clear hC
 go_enter Tryz.func151,Tryz.ntmps151
 go_wp2_with (go_at_call 208;refine H.out.mono ?_;rintro e w1 ⟨rfl,hb⟩)
 go_ret
 exact ⟨rfl,hb⟩
def NewRd (b:Bytes) (w:World) (e:Ending) (w':World):Prop:=∃ r,e=.returned (.pointer (some ⟨r,0,none⟩))/\RdAt w' r ⟨b,0⟩/\w.heap.size<=r/\Below w.heap.size w w'
theorem newReader_any (b:Bytes) (w:World) (hlim:b.length<=281474976710656) :
  Calls Tryz.prog 96 #[.string ⟨b.toArray⟩] w (NewRd b w):=by
 have hl:b.length<=9223372036854775807:=by omega
 go_enter Tryz.func96,Tryz.ntmps96
 go_wp2_with (go_at_call 151;refine (clone_any _ _ (by simpa [ByteArray.size] using hlim)).mono ?_;rintro e w1 ⟨rfl,hb⟩)
 go_ret
 exact ⟨_,rfl,⟨Blk.new _ _ _,hl⟩,hb.size,hb.alloc hb.size _⟩
theorem run_copy_z {P:Program} (w:World) (dT sT ty elem:TypeId) (z b o dLen dCap:Nat) (a:Addr) (sLen sCap:Nat) (cs:List Value)
  (hu:P.underlying dT=some (.slice elem)) (hs:(P.info? elem).map (·.size)=some z) (hn:cs.length=Nat.min sLen dLen*z)
  (hsrc:∀ j v,cs[j]? = some v->w.cell? (a.add j)=some v) (hc:∀ j,j<cs.length->(w.cell? ⟨b,o+j,none⟩).isSome=true) (hf:∀ j,j<cs.length->w.frozen? ⟨b,o+j,none⟩=false) (h1:∀ v∈cs,v.oneCell'=true) :
  (Builtin.copy_ #[dT,sT] ty #[.slice (some ⟨b,o,none⟩) dLen dCap,.slice (some a) sLen sCap]).run P w=.ok (goInt (Nat.min sLen dLen)) (w.setCells b o cs):=by
 have hl:=run_loadCells_list (P:=P) w a cs hsrc
 have hst:=run_storeCells_cells (P:=P) b o cs 0 w (by simpa using hc) (by simpa using hf) h1
 cases hq:P.info? elem with
 | none=>simp [hq] at hs
 | some i =>
  have hi:i.size=z:=by simpa [hq] using hs
  simp [Builtin.copy_,run_underlying hu,Builtin.lenOf,Builtin.firstCells,sizeOf,typeInfo,hq,hi,<- hn,hl,hst]
/-- There is room: in place. -/
theorem insert_shift (b n c i vb voff m vc:Nat) (cs vs:List Value) (w:World) (hi:i<n) (hm:0<m) (hroom:n+m<=c) (hbig:n+m<=1000000) (hvb:vb≠b)
  (hcl:cs.length=n*4) (hvl:vs.length=m*4)
  (hcs:∀ j v,cs[j]? = some v->w.cell? ⟨b,j,none⟩=some v) (hsp:∀ j,j<(n+m)*4->(w.cell? ⟨b,j,none⟩).isSome=true) (hfz:∀ j,j<(n+m)*4->w.frozen? ⟨b,j,none⟩=false)
  (hvs:∀ j v,vs[j]? = some v->w.cell? ⟨vb,voff+j,none⟩=some v) (h1c:∀ v∈cs,v.oneCell'=true) (h1v:∀ v∈vs,v.oneCell'=true)
  (tA tB:TypeId) (kA kB:Nat) (hsa:w.shape? vb=some (tA,kA)) (hsb:w.shape? b=some (tB,kB)) (hkB:kB≠0) (hfa:w.frozen? ⟨vb,voff,none⟩=false) (hfe:w.frozen? ⟨vb,kA,none⟩=false) :
  Calls Tryz.prog 202 #[.slice (some ⟨b,0,none⟩) n c,.int .i64 i,.slice (some ⟨vb,voff,none⟩) m vc] w λ e w' =>
   e=.returned (.slice (some ⟨b,0,none⟩) (n+m) c)/\w'=(w.drew.setCells b ((i+m)*4) (cs.drop (i*4))).setCells b (i*4) vs:=by
 have hz1:¬ ((m:Int)=0):=by omega
 have hz2:¬ ((i:Int)=(n:Int)):=by omega
 have hov:∀ lb cb,(callFunc 237 #[.slice (some ⟨vb,voff,none⟩) m vc,.slice (some ⟨b,(i+m)*4,none⟩) lb cb]).run Tryz.prog w=.ok (.value (.bool false)) w:=λ lb cb=>by
  rw [run_callFunc_extern Tryz.func237 (by kernel_rfl) (by kernel_rfl) (by kernel_rfl) (e:=Extern.SlicesOverlaps.overlaps #[217,217] #[4]) (by kernel_rfl),
   Lib.run_overlaps_apart w 217 4 223 Tryz.underlying217 4 Tryz.sizeOf223 ⟨vb,voff,none⟩ ⟨b,(i+m)*4,none⟩ m vc lb cb hvb tA tB kA kB hsa hsb hkB hfa hfe]
  rfl
 have hsz:(Tryz.prog.info? 223).map (·.size)=some 4:=by kernel_rfl
 have hdl:(cs.drop (i*4)).length=(n-i)*4:=by rw [List.length_drop,hcl];omega
 have hw1:IntKind.i64.wrap ((i:Int)+(m:Int))=(i:Int)+(m:Int):=by rw [IntKind.wrap_i64];omega
 have hb1:(0:Int)<=(i:Int)+(m:Int):=by omega
 have hin:i<=n:=by omega
 have htn:((i:Int)+(m:Int)).toNat=i+m:=by omega
 have hb2:¬ (c=i+m):=by omega
 have hb3:(i:Int)<=(n:Int)+(m:Int):=by omega
 have hb4:¬ (c=i):=by omega
 have hcp1:∀ ty dc sc,(Builtin.copy_ #[217,217] ty #[.slice (some ⟨b,(i+m)*4,none⟩) (n+m-(i+m)) dc,.slice (some ⟨b,i*4,none⟩) (n+m-i) sc]).run Tryz.prog w.drew=.ok (goInt (Nat.min (n+m-i) (n+m-(i+m)))) (w.drew.setCells b ((i+m)*4) (cs.drop (i*4))):=λ ty dc sc =>
  run_copy_z w.drew _ _ ty 223 4 b ((i+m)*4) (n+m-(i+m)) dc ⟨b,i*4,none⟩ (n+m-i) sc (cs.drop (i*4)) Tryz.underlying217 hsz (by rw [hdl];congr 1;simp only [Nat.min_def];split<;>omega)
   (λ j v hj=>by rw [Addr.add_lit];exact hcs (i*4+j) v (by rwa [List.getElem?_drop] at hj))
   (λ j hj=>hsp _ (by omega)) (λ j hj=>hfz _ (by omega)) (λ v hv=>h1c v (List.mem_of_mem_drop hv))
 obtain ⟨W1,hW1⟩:∃ W1,W1=w.drew.setCells b ((i+m)*4) (cs.drop (i*4)):=⟨_,rfl⟩
 have hsp1:∀ k,k<(n+m)*4->(W1.cell? ⟨b,k,none⟩).isSome=true:=λ k hk=>by
  rw [hW1]
  exact isSome_setCells b (cs.drop (i*4)) ((i+m)*4) w.drew (λ j hj=>hsp _ (by rw [hdl] at hj;omega)) k (hsp k hk)
 have hcp2:∀ (W:World),(∀ x,W.cell? x=W1.cell? x)->(∀ x,W.frozen? x=W1.frozen? x)->∀ ty dc,(Builtin.copy_ #[217,217] ty #[.slice (some ⟨b,i*4,none⟩) (n+m-i) dc,.slice (some ⟨vb,voff,none⟩) m vc]).run Tryz.prog W=.ok (goInt (Nat.min m (n+m-i))) (W.setCells b (i*4) vs):=λ W hWc hWf ty dc =>
  run_copy_z W _ _ ty 223 4 b (i*4) (n+m-i) dc ⟨vb,voff,none⟩ m vc vs Tryz.underlying217 hsz (by rw [hvl];congr 1;simp only [Nat.min_def];split<;>omega)
   (λ j v hj=>by
    rw [Addr.add_lit,hWc,hW1,World.cell?_setCells_out b _ _ _ _ (λ h _=>absurd h hvb)]
    exact hvs j v hj)
   (λ j hj=>by rw [hWc];exact hsp1 _ (by omega)) (λ j hj=>by rw [hWf,hW1,World.frozen?_setCells];exact hfz _ (by omega)) h1v
 rw [<- hW1] at hcp1
 clear hdl hsz hcl hvl
 go_enter Tryz.func202,Tryz.ntmps202
 go_wp2_with (simp only [hov])
 go_region_law (refine step_copy_runI rfl _ _ 217 217 rfl _ _ (by simp [Act.eval,Act.put]) (by simp [Act.eval,Act.put]) (hcp1 _ _ _) ?_)
 go_wp2_with (at_builtin;refine wpList_copy_runI _ rfl _ _ 217 217 rfl _ _ rfl rfl (hcp2 _ (λ _=>rfl) (λ _=>rfl) _ _) ?_)
 go_ret
 first | exact ⟨rfl,rfl⟩ | exact ⟨rfl,by rw [hW1]⟩
/-- There is no room: a new row. -/
theorem insert_grow (b n c i vb voff m vc:Nat) (cs vs:List Value) (w:World) (hi:i<n) (hm:0<m) (hnc:n<=c) (hroom:c<n+m) (hbig:n+m<=1000000)
  (hcl:cs.length=n*4) (hvl:vs.length=m*4)
  (hcs:∀ j v,cs[j]? = some v->w.cell? ⟨b,j,none⟩=some v)
  (hvs:∀ j v,vs[j]? = some v->w.cell? ⟨vb,voff+j,none⟩=some v) (h1c:∀ v∈cs,v.oneCell'=true) (h1v:∀ v∈vs,v.oneCell'=true) :
  Calls Tryz.prog 202 #[.slice (some ⟨b,0,none⟩) n c,.int .i64 i,.slice (some ⟨vb,voff,none⟩) m vc] w λ e w' =>
   ∃ (G:Nat) (ROW:Array Value),(n+m<=G/\G<=9223372036854775807)/\ROW.size=G*4/\(∀ j,j<i*4->ROW[j]? = cs[j]?)/\e=.returned (.slice (some ⟨w.heap.size,0,none⟩) (n+m) G) ∧
   w'=(((w.alloc (.cells ROW 223)).drew.setCells w.heap.size (i*4) vs).drew).setCells w.heap.size ((i+m)*4) (cs.drop (i*4)):=by
 obtain ⟨i0,hi0,hz0,hzs,hzb⟩:=info_parts (show (Tryz.prog.info? 223).map (λ i=>(i.zero,i.size,i.bytes))=some (some (.agg #[.string ⟨#[]⟩,.string ⟨#[]⟩,.int .i64 0,.int .i64 0]),4,48) by kernel_rfl)
 have hz1:¬ ((m:Int)=0):=by omega
 have hz2:¬ ((i:Int)=(n:Int)):=by omega
 have hz3:(c:Int)<(n:Int)+(m:Int):=by omega
 have hsz:(Tryz.prog.info? 223).map (·.size)=some 4:=by kernel_rfl
 have hbw:b<w.heap.size:=block_lt_of_cell (hcs 0 _ (List.getElem?_eq_getElem (by omega)))
 have hvw:vb<w.heap.size:=block_lt_of_cell (hvs 0 _ (List.getElem?_eq_getElem (by omega)))
 have hkk:(n:Int)+(m:Int)-(i:Int)=((n+m-i:Nat):Int):=by omega
 have hik:i+(n+m-i)=n+m:=by omega
 have hold:(Builtin.firstCells i0.size i (.slice (some ⟨b,0,none⟩) i c)).run Tryz.prog w.drew=.ok (cs.take (i*4)).toArray w.drew:=by
  rw [hzs]
  exact run_firstCells_some w.drew 4 i ⟨b,0,none⟩ i c (cs.take (i*4)) (by rw [List.length_take];omega) (λ j v hj=>by
   rw [Addr.add_lit]
   rw [List.getElem?_take] at hj
   split at hj
   ·rw [Nat.zero_add];exact hcs j v hj
   ·cases hj)
 have hrz:∀ ty,(Builtin.append_ #[217,3] ty #[.slice (some ⟨b,0,none⟩) i c,.int .i64 ((n:Int)+(m:Int)-(i:Int))]).run Tryz.prog w =
   .ok (.slice (some ⟨w.heap.size,0,none⟩) (n+m) (grownCap w (n+m) c 223)) (w.drew.alloc (.cells ((cs.take (i*4)).toArray++Builtin.zeroCells (Value.agg #[.string ⟨#[]⟩,.string ⟨#[]⟩,.int .i64 0,.int .i64 0]).cells (n+m-i)++Builtin.zeroCells (Value.agg #[.string ⟨#[]⟩,.string ⟨#[]⟩,.int .i64 0,.int .i64 0]).cells (grownCap w (n+m) c 223-(n+m))) 223)):=λ ty=>by
  have h:=Lib.run_append_grow_zeros w 217 3 ty 223 i0 _ .i64 .i64 Tryz.underlying217 Tryz.underlying3 hi0 hz0 (some ⟨b,0,none⟩) i c (cs.take (i*4)) hold (n+m-i) (by omega) (by omega) (by omega) (by omega) (by rw [hzb];omega)
   (by rw [hzb,hik];exact growslice_fits hroom (by omega))
  rw [hik] at h
  rw [hkk]
  exact h
 obtain ⟨G,hG⟩:∃ G,G=grownCap w (n+m) c 223:=⟨_,rfl⟩
 obtain ⟨ROW,hROW⟩:∃ ROW:Array Value,ROW=(cs.take (i*4)).toArray++Builtin.zeroCells (Value.agg #[.string ⟨#[]⟩,.string ⟨#[]⟩,.int .i64 0,.int .i64 0]).cells (n+m-i)++Builtin.zeroCells (Value.agg #[.string ⟨#[]⟩,.string ⟨#[]⟩,.int .i64 0,.int .i64 0]).cells (G-(n+m)):=⟨_,rfl⟩
 rw [<- hG] at hrz
 rw [<- hROW] at hrz
 have hGn:n+m<=G:=by rw [hG];exact grownCap_ge w _ _ _
 have hRs:ROW.size=G*4:=by
  rw [hROW]
  have h4:(Value.agg #[Value.string ⟨#[]⟩,Value.string ⟨#[]⟩,Value.int .i64 0,Value.int .i64 0]).cells.size=4:=rfl
  simp only [Array.size_append,List.size_toArray,List.length_take,hcl,Builtin.zeroCells,Array.size_map,Array.size_range,h4]
  rw [Nat.min_eq_left (by omega)]
  omega
 have hRp:∀ j,j<i*4->ROW[j]? = cs[j]?:=by
  intro j hj
  have hl:(cs.take (i*4)).toArray.size=i*4:=by rw [List.size_toArray,List.length_take];omega
  rw [hROW,Array.append_assoc,Array.getElem?_append_left (by omega),List.getElem?_toArray,List.getElem?_take,if_pos hj]
 obtain ⟨W1,hW1⟩:∃ W1,W1=w.drew.alloc (.cells ROW 223):=⟨_,rfl⟩
 rw [<- hW1] at hrz
 have hN:∀ j,j<(n+m)*4->(W1.cell? ⟨w.heap.size,j,none⟩).isSome=true:=λ j hj=>by
  rw [hW1,World.cell?_alloc_at (w:=w.drew) ROW _ w.heap.size j rfl,Array.getElem?_eq_getElem (by omega)];rfl
 have hNf:∀ j,W1.frozen? ⟨w.heap.size,j,none⟩=false:=λ j=>by rw [hW1];exact World.frozen?_alloc_at (w:=w.drew) ROW _ w.heap.size j rfl
 have hOb:∀ j v,w.cell? ⟨b,j,none⟩=some v->W1.cell? ⟨b,j,none⟩=some v:=λ j v h=>by rw [hW1,World.cell?_alloc_past (w:=w.drew) _ b j hbw];exact h
 have hOv:∀ j v,w.cell? ⟨vb,j,none⟩=some v->W1.cell? ⟨vb,j,none⟩=some v:=λ j v h=>by rw [hW1,World.cell?_alloc_past (w:=w.drew) _ vb j hvw];exact h
 have hdl:(cs.drop (i*4)).length=(n-i)*4:=by rw [List.length_drop,hcl];omega
 have hcpA:∀ (W:World),(∀ x,W.cell? x=W1.cell? x)->(∀ x,W.frozen? x=W1.frozen? x)->∀ ty dc,(Builtin.copy_ #[217,217] ty #[.slice (some ⟨w.heap.size,i*4,none⟩) (n+m-i) dc,.slice (some ⟨vb,voff,none⟩) m vc]).run Tryz.prog W=.ok (goInt (Nat.min m (n+m-i))) (W.setCells w.heap.size (i*4) vs):=λ W hWc hWf ty dc =>
  run_copy_z W _ _ ty 223 4 w.heap.size (i*4) (n+m-i) dc ⟨vb,voff,none⟩ m vc vs Tryz.underlying217 hsz (by rw [hvl];congr 1;simp only [Nat.min_def];split<;>omega)
   (λ j v hj=>by rw [Addr.add_lit,hWc];exact hOv _ v (hvs j v hj))
   (λ j hj=>by rw [hWc];exact hN _ (by omega)) (λ j hj=>by rw [hWf];exact hNf _) h1v
 have hbN:b≠w.heap.size:=by omega
 have hcpB:∀ (W:World),(∀ x,W.cell? x=(W1.setCells w.heap.size (i*4) vs).cell? x)->(∀ x,W.frozen? x=(W1.setCells w.heap.size (i*4) vs).frozen? x)->∀ ty dc sc,(Builtin.copy_ #[217,217] ty #[.slice (some ⟨w.heap.size,(i+m)*4,none⟩) (n+m-(i+m)) dc,.slice (some ⟨b,i*4,none⟩) (n-i) sc]).run Tryz.prog W=.ok (goInt (Nat.min (n-i) (n+m-(i+m)))) (W.setCells w.heap.size ((i+m)*4) (cs.drop (i*4))):=λ W hWc hWf ty dc sc =>
  run_copy_z W _ _ ty 223 4 w.heap.size ((i+m)*4) (n+m-(i+m)) dc ⟨b,i*4,none⟩ (n-i) sc (cs.drop (i*4)) Tryz.underlying217 hsz (by rw [hdl];congr 1;simp only [Nat.min_def];split<;>omega)
   (λ j v hj=>by
    rw [Addr.add_lit,hWc,World.cell?_setCells_out _ _ _ _ _ (λ h _=>absurd h hbN)]
    exact hOb _ v (hcs (i*4+j) v (by rwa [List.getElem?_drop] at hj)))
   (λ j hj=>by rw [hWc];exact isSome_setCells w.heap.size vs (i*4) W1 (λ t ht=>hN _ (by rw [hvl] at ht;omega)) _ (hN _ (by rw [hdl] at hj;omega)))
   (λ j hj=>by rw [hWf,World.frozen?_setCells];exact hNf _) (λ v hv=>h1c v (List.mem_of_mem_drop hv))
 have hG63:G<=9223372036854775807:=by
  have:=grownCap_le_maxLen w (n+m) c 223 (by unfold maxLen;omega)
  rw [<- hG] at this
  unfold maxLen at this
  omega
 have hGi:¬ (G=i):=by omega
 have hGim:¬ (G=i+m):=by omega
 have hci:¬ (c=i):=by omega
 have hc63:c<=9223372036854775807:=by omega
 subst hW1
 have hE1:∀ x,((w.alloc (.cells ROW 223)).drew).cell? x=(w.drew.alloc (.cells ROW 223)).cell? x:=λ x=>rfl
 have hE2:∀ x,((w.alloc (.cells ROW 223)).drew).frozen? x=(w.drew.alloc (.cells ROW 223)).frozen? x:=λ x=>rfl
 have hF1:∀ x,(((w.alloc (.cells ROW 223)).drew.setCells w.heap.size (i*4) vs).drew).cell? x=((w.drew.alloc (.cells ROW 223)).setCells w.heap.size (i*4) vs).cell? x:=λ x=>rfl
 have hF2:∀ x,(((w.alloc (.cells ROW 223)).drew.setCells w.heap.size (i*4) vs).drew).frozen? x=((w.drew.alloc (.cells ROW 223)).setCells w.heap.size (i*4) vs).frozen? x:=λ x=>rfl
 have hw1:IntKind.i64.wrap ((i:Int)+(m:Int))=(i:Int)+(m:Int):=by rw [IntKind.wrap_i64];omega
 have hb1:(0:Int)<=(i:Int)+(m:Int):=by omega
 have hin:i<=n:=by omega
 have htn:((i:Int)+(m:Int)).toNat=i+m:=by omega
 have hb3:(i:Int)<=(n:Int):=by omega
 refine Calls.mono (R:=λ e w'=>e=.returned (.slice (some ⟨w.heap.size,0,none⟩) (n+m) G)/\w'=(((w.alloc (.cells ROW 223)).drew.setCells w.heap.size (i*4) vs).drew).setCells w.heap.size ((i+m)*4) (cs.drop (i*4))) ?_ (λ e w' h=>⟨G,ROW,⟨hGn,hG63⟩,hRs,hRp,h⟩)
 clear hkk hik hold hROW hG hRs hRp hdl hsz hcl hvl hzs hzb hz0 hi0
 go_enter Tryz.func202,Tryz.ntmps202
 go_wp2_with (first
  | (at_builtin;refine Lib.wpList_append_run _ rfl _ _ _ _ rfl _ _ rfl rfl _ _ (hrz _) ?_)
  | (at_builtin;refine wpList_copy_runI _ rfl _ _ 217 217 rfl _ _ rfl rfl (hcpA _ hE1 hE2 _ _) ?_)
  | (at_builtin;refine wpList_copy_runI _ rfl _ _ 217 217 rfl _ _ rfl rfl (hcpB _ (λ _=>rfl) (λ _=>rfl) _ _ _) ?_))
 go_region_law (refine step_copy_runI rfl _ _ 217 217 rfl (.slice (some ⟨w.heap.size,(i+m)*4,none⟩) (n+m-(i+m)) (G-(i+m))) (.slice (some ⟨b,i*4,none⟩) (n-i) (c-i)) (by simp [Act.eval,Act.put]) (by simp [Act.eval,Act.put]) (hcpB _ hF1 hF2 3 (G-(i+m)) (c-i)) ?_)
 go_wp2
 go_ret
 exact ⟨rfl,rfl⟩
end Go.Ev
