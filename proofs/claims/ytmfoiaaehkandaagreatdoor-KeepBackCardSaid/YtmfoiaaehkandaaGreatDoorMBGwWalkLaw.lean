/-
  Texts of this claim.
-/
import Derived.Test.YtmfoiaaehkandaaGreatDoorMBGwPutT0
import Derived.Test.YtmfoiaaehkandaaGreatDoorMBGwRefB
import Derived.Lib.MinMaxS
set_option linter.unusedVariables false
set_option linter.unusedSimpArgs false
set_option maxHeartbeats 8000000
set_option maxRecDepth 100000

namespace Go.Ev
open Go.Proofs Go.RowKit
theorem aheadP_appT {k:Bytes}:∀ {a b:List Pair},(∀ q∈a,lessB q.1 k=true)->aheadP k (a++b)=a.length+aheadP k b
 | [],b,_=>by simp
 | q :: a,b,h=>by
  simp only [List.cons_append,aheadP,List.length_cons]
  rw [if_pos (h q (List.mem_cons_self ..)),aheadP_appT λ z hz=>h z (List.mem_cons_of_mem _ hz)]
  omega
theorem aheadP_stopT {k:Bytes}:∀ {a b:List Pair},(∀ q∈b,lessB q.1 k=false)->aheadP k (a++b)=aheadP k a
 | [],[],_=>rfl
 | [],q :: b,h=>by simp [aheadP,h q (List.mem_cons_self ..)]
 | q :: a,b,h=>by
  simp only [List.cons_append,aheadP]
  rw [aheadP_stopT h]
theorem ahead_leafT {M:Store} {k:Bytes}:∀ {l:List Item} {ps:List Pair} {ids:List Int},LeafAt M l ps ids->ahead k l=aheadP k ps
 | [],_,_,⟨h,_⟩=>by subst h;rfl
 | x :: l,_,_,⟨v,ps',i1,i2,h1,h2,h3,h4⟩=>by
  subst h1
  simp only [ahead,aheadP]
  rw [ahead_leafT h4]
theorem ahead_zipT {M:Store} {all ps:List Pair} {id:Int} {lo:Bytes} {hi:Option Bytes} {off:Nat} {path:List (List Child × Nat)} {its:List Item} {i2:List Int} {key:Bytes} (hz:Zip M 1 all 0 id lo hi ps off path) (hla:LeafAt M its ps i2) (hin:inR lo hi key):aheadP key all=off+ahead key its:=by
 obtain ⟨a,b,e1,e2,e3,e4⟩:=hz.pos
 rw [e1,aheadP_appT λ q hq=>lessB_of_lt_le (e3 q hq) hin.1,e2,aheadP_stopT,ahead_leafT hla]
 intro q hq
 obtain ⟨u,hu,hl⟩:=e4 q hq
 cases hc:lessB q.1 key
 ·rfl
 ·have:=lessB_trans hc (hin.2 u hu)
  rw [this] at hl
  cases hl
theorem rising_tailT {q:Pair} {l:List Pair} (h:Rising (q :: l)):Rising l/\∀ p∈l,lessB q.1 p.1=true:=by
 have:=Rising.append.1 (show Rising ([q]++l) from h)
 exact ⟨this.2.1,λ p hp=>this.2.2 q (by simp) p hp⟩
theorem rising_splitT {all:List Pair} {i:Nat} {q:Pair} (hr:Rising all) (hq:all[i]? = some q):(∀ p∈all.take i,lessB p.1 q.1=true)/\∀ p∈all.drop (i+1),lessB q.1 p.1=true:=by
 obtain ⟨hlt,he⟩:=List.getElem?_eq_some_iff.1 hq
 have e:all=all.take i++q :: all.drop (i+1):=by
  rw [<- he,<- List.drop_eq_getElem_cons hlt,List.take_append_drop]
 rw [e,Rising.append] at hr
 exact ⟨λ p hp=>hr.2.2 p hp q (List.mem_cons_self ..),(rising_tailT hr.2.1).2⟩
theorem ahead_atT {all:List Pair} {i:Nat} {q:Pair} (hr:Rising all) (hq:all[i]? = some q):aheadP q.1 all=i/\isAtP q.1 all=true:=by
 obtain ⟨hlt,he⟩:=List.getElem?_eq_some_iff.1 hq
 obtain ⟨h1,h2⟩:=rising_splitT hr hq
 have e:all=all.take i++q :: all.drop (i+1):=by
  rw [<- he,<- List.drop_eq_getElem_cons hlt,List.take_append_drop]
 have ha:aheadP q.1 all=i:=by
  rw [e,aheadP_appT h1,List.length_take,Nat.min_eq_left (Nat.le_of_lt hlt)]
  simp [aheadP,lessB_irrefl]
 refine ⟨ha,?_⟩
 rw [isAtP_eq,ha,hq]
 simp
end Go.Ev
namespace Go.Ev
theorem Trail.zip {M:Store} {d:Nat} {all:List Pair} {key:Bytes} {id lid:Int} {P:List (Int × Nat × List Child)} {items:List Item} (ht:Trail M key id P lid items) :
  ∀ {k:Nat} {lo:Bytes} {hi:Option Bytes} {ps:List Pair} {off:Nat} {path:List (List Child × Nat)},Zip M d all k id lo hi ps off path->inR lo hi key →
   ∃ lo' hi' ps' off' path' i2,Zip M d all 0 lid lo' hi' ps' off' path'/\inR lo' hi' key/\LeafAt M items ps' i2/\riseI items=true/\(layI items).length<=240:=by
 induction ht with
 | leaf h1 h2 h3 =>
  intro k lo hi ps off path hz hin
  cases k with
  | zero =>
   obtain ⟨⟨ids,its,i2,q1,q2,q3,q4,_,_⟩,_⟩:=hz.tree
   rw [h1] at q1
   simp only [Option.some.injEq,Pg.mk.injEq,true_and] at q1
   have:=layI_inj h2 q2 h3 q1
   subst this
   exact ⟨lo,hi,ps,off,path,i2,hz,hin,q4,h2,h3⟩
  | succ k =>
   obtain ⟨L,q1,_⟩:=hz.child
   rw [h1] at q1
   simp at q1
 | branch h1 h2 h3 h4 _ ih =>
  intro k lo hi ps off path hz hin
  cases k with
  | zero =>
   obtain ⟨⟨ids,its,i2,q1,_⟩,_⟩:=hz.tree
   rw [h1] at q1
   simp at q1
  | succ k =>
   obtain ⟨L',q1,q2,q3,_,q5⟩:=hz.child
   rw [h1] at q1
   simp only [Option.some.injEq,Pg.mk.injEq,true_and] at q1
   have:=layC_inj h2 q2 h3 q1
   subst this
   obtain ⟨lo',hi',ps',off',hz',_,_,hk⟩:=q5 _ _ h4
   exact ih hz' (hk _ hin rfl)
theorem leaf_find {M:Store} {all ps:List Pair} {lid:Int} {lo:Bytes} {hi:Option Bytes} {off:Nat} {path:List (List Child × Nat)} {items:List Item} {i2:List Int} {key:Bytes} (hz:Zip M 1 all 0 lid lo hi ps off path) (hla:LeafAt M items ps i2) (hin:inR lo hi key) :
  isAtP key all=isAt key items/\∀ (h:ahead key items<items.length),isAt key items=true->∃ v ids,all[aheadP key all]? = some (key,v)/\ValAt M items[ahead key items] v ids:=by
 have ha:=ahead_zipT hz hla hin
 obtain ⟨a,b,e1,e2,e3,e4⟩:=hz.pos
 have hlen:=hla.item.1
 have hat:∀ (h:ahead key items<items.length),∃ v ids,all[aheadP key all]? = some (items[ahead key items].key,v)/\ValAt M items[ahead key items] v ids:=by
  intro h
  obtain ⟨hkey,ids,hval⟩:=hla.item.2 (ahead key items) h (by omega)
  refine ⟨_,ids,?_,hval⟩
  rw [ha,e1,List.getElem?_append_right (by omega),e2,Nat.add_sub_cancel_left,List.getElem?_append_left (by omega),List.getElem?_eq_getElem (by omega),hkey]
 refine ⟨?_,λ h hi=>?_⟩
 ·rw [isAtP_eq]
  by_cases h:ahead key items<items.length
  ·obtain ⟨v,ids,h1,_⟩:=hat h
   rw [h1]
   cases hc:isAt key items with
   | true =>
    obtain ⟨x,hx,hk⟩:=isAt_iff.1 hc
    rw [List.getElem?_eq_getElem h,Option.some.injEq] at hx
    simp [hx,hk]
   | false =>
    have:¬ items[ahead key items].key=key:=λ e=>by
     have:=isAt_iff.2 ⟨_,List.getElem?_eq_getElem h,e⟩
     rw [hc] at this
     cases this
    simpa using this
  ·have hle:=ahead_le key items
   have hc:isAt key items=false:=by
    cases hc:isAt key items with
    | false=>rfl
    | true =>
     obtain ⟨x,hx,_⟩:=isAt_iff.1 hc
     exact absurd (List.getElem?_eq_some_iff.1 hx).1 h
   rw [hc]
   cases hq:all[aheadP key all]? with
   | none=>rfl
   | some q =>
    rw [ha,e1,List.getElem?_append_right (by omega),e2,Nat.add_sub_cancel_left,List.getElem?_append_right (by omega)] at hq
    obtain ⟨u,hu,hl⟩:=e4 q (List.mem_of_getElem? hq)
    have h2:=hin.2 u hu
    simp only [beq_eq_false_iff_ne,ne_eq]
    intro e
    rw [e,h2] at hl
    cases hl
 ·obtain ⟨v,ids,h1,h2⟩:=hat h
  obtain ⟨x,hx,hk⟩:=isAt_iff.1 hi
  rw [List.getElem?_eq_getElem h,Option.some.injEq] at hx
  rw [hx,hk] at h1
  exact ⟨v,ids,h1,h2⟩
open Go.Proofs Go.RowKit
section
variable {p most cnt:Nat} {c:Pc} {M:Store}
def GetTP (key:Bytes) (all:List Pair) (w:World) (e:Ending) (w':World):Prop:=
 ((isAtP key all=true/\∃ v,all[aheadP key all]? = some (key,v)/\e=.returned (.tuple #[strV v,.int .i64 0]))\/(isAtP key all=false/\e=.returned (.tuple #[strV [],.int .i64 7])))/\Below w.heap.size w w'
theorem treeGetL_ok (root:Int) (key:Bytes) (all:List Pair) (w:World) (h:PgOk w p c most M cnt) (ht:TreeL M root all) (hk1:1<=key.length) (hk2:key.length<=40) :
  Calls Tryz.prog 81 #[ptrV p,.int .i64 root,strV key] w (GetTP key all w):=by
 obtain ⟨⟨k,ids,hT,hk8⟩,hsh⟩:=ht
 obtain ⟨P,lid,items,hway,hPl⟩:=hT.way key hk8
 obtain ⟨lo',hi',ps',off',path',i2,hz,hin,hla,hri,hli⟩:=hway.trail.zip (.root hT.tree hT.wide hk8) ⟨lessB_nil _,λ u hu=>by cases hu⟩
 obtain ⟨hat,hval⟩:=leaf_find hz hla hin
 have hil:items.length<=240:=by have:=layI_ge items;omega
 have hkey:=isKey_any key w (by omega)
 have e1:decide (1<=key.length)=true:=by simpa using hk1
 have e2:decide (key.length<=40)=true:=by simpa using hk2
 rw [e1,e2] at hkey
 have HKey:=Hdz hkey
 have HWay:=Hdz (way_ok root key P lid items w h hway)
 have HA:=Hdz (Anz h (Anz hsh (Anz hri hval)))
 have hale:=ahead_le key items
 have HAt:=Hdz hat
 clear hkey e1 e2 hT hsh h hway hz hla hin hri hli hval hat hk1 hk2
 go_enter Tryz.func81,Tryz.ntmps81
 go_wp2_with (fail)
 go_must (refine HKey.out.mono ?_)
 rintro e w0 ⟨rfl,rfl⟩
 go_wp2_with (fail)
 go_must (refine HWay.out.mono ?_)
 rintro e w1 ⟨pv,st,vi,rfl,hstp,hgh,hsteps,hIt,hb1⟩
 obtain ⟨Ap,cp,rfl,_⟩:=Sl.of_own hstp
 unfold OwnsI at hIt
 obtain ⟨Ai,ci,rfl,_⟩:=Sl.of_own hIt
 obtain ⟨h,hsh,hri,hval⟩:=HA.out
 have hF:=findI_any Ai items.length ci items key w1 (Sl.of_own hIt) (by omega) hri
 have HF:=Hdz hF
 have HI:=Hdz (Anz hIt hb1)
 clear hstp hgh hsteps hIt hb1 hF h hsh hri hval
 go_wp2_with (fail)
 go_must (refine HF.out.mono ?_)
 rintro e w2 ⟨rfl,hb2⟩
 obtain ⟨h,hsh,hri,hval⟩:=HA.out
 obtain ⟨hIt,hb1⟩:=HI.out
 have hb02:=hb1.trans (hb2.mono hb1.size)
 have HB:=Hdz hb02
 cases hc:isAt key items with
 | false =>
  have hat:=HAt.out
  rw [hc] at hat
  have HAt2:=Hdz hat
  clear h hsh hri hval hIt hb1 hb2 hb02 hat
  go_wp2_with (fail)
  refine bodyPost_ret (v:=.tuple #[strV [],.int .i64 7]) (by simp [results,Tryz.results81,go_sem]) rfl ?_
  exact ⟨.inr ⟨HAt2.out,rfl⟩,HB.out⟩
 | true =>
  have hat:=HAt.out
  rw [hc] at hat
  have hlt:ahead key items<items.length:=by
   obtain ⟨x,hx,_⟩:=isAt_iff.1 hc
   exact (List.getElem?_eq_some_iff.1 hx).1
  obtain ⟨v,vids,hq,hv⟩:=hval hlt hc
  have hsv:v.length<=2000:=hsh _ (List.mem_of_getElem? hq)
  obtain ⟨it,hit⟩:∃ it,it=items[ahead key items]'hlt:=⟨_,rfl⟩
  rw [<- hit] at hv
  have hIt2:=own_below hIt hb2
  obtain ⟨_,_,e0,_,_,hcl⟩:=Sl.of_own hIt2
  cases e0
  obtain ⟨blk,o,rfl,hbl,hcell⟩:=hcl (by omega)
  obtain ⟨i0,i2',i1,i3⟩:=item_4 (w:=w2) λ i u hu=>item_cells (n:=items.length) hcell hlt i u hu
  rw [<- hit] at i0 i2' i1 i3
  have hids:vids.length<=2000:=Nat.le_trans (val_len hv hsv) (by omega)
  have hV:∀ W,Below w2.heap.size w2 W->Calls Tryz.prog 135 #[ptrV p,.agg #[strV it.key,strV it.val,.int .i64 it.over,.int .i64 it.size]] W λ e w'=>e=.returned (.tuple #[strV v,.int .i64 0])/\Below W.heap.size W w':=λ W hW=>value_ok it v vids W ((h.below hb02).below hW) hv hsv hids
  have HV:=Hdz hV
  have HQ:=Hdz (Anz hat hq)
  have hj0:(0:Int)<=((ahead key items:Nat):Int):=by omega
  have hj1:((ahead key items:Nat):Int)<(items.length:Int):=by omega
  clear h hsh hri hval hIt hb1 hb2 hb02 hat hq hv hsv hIt2 hcl hcell hids hV
  clear hit
  generalize ahead key items=j at *
  obtain ⟨ik,iv,io,isz⟩:=it
  simp only at i0 i1 i2' i3
  go_wp2_with (fail)
  go_must (refine (HV.out _ (Below.refl _ _)).mono ?_)
  rintro e w3 ⟨rfl,hb3⟩
  go_wp2_with (fail)
  refine bodyPost_ret (v:=.tuple #[strV v,.int .i64 0]) (by simp [results,Tryz.results81,go_sem]) rfl ?_
  exact ⟨.inl ⟨HQ.out.1,v,HQ.out.2,rfl⟩,HB.out.trans (hb3.mono HB.out.size)⟩
end
section
variable {p most cnt:Nat} {c:Pc} {M:Store} {all:List Pair} {x:Cc} {root:Int} {w:World} {st:List CStep} {items:List Item} {at':Int} {on:Bool}
abbrev pairV (q:Pair):Value:=.agg #[strV q.1,strV q.2]
theorem pair_no (hc:CurAt w p x root st items at' false):Calls Tryz.prog 117 #[ptrV x.b] w λ e w'=>e=.returned (.tuple #[pairV ([],[]),.bool false])/\Below w.heap.size w w':=by
 have hb0:=(Below.refl w.heap.size w).alloc (Nat.le_refl _) (.cells #[strV [],strV []] 139)
 have hc0:=hc.below hb0
 have HBad:=Hdz (bad_not hc0)
 have c5:(w.alloc (.cells #[strV [],strV []] 139)).cell? ⟨x.b,5,none⟩=some (.bool false):=hc0.blk.cell 5
 have bx0:Blk (w.alloc (.cells #[strV [],strV []] 139)) w.heap.size 139 #[strV [],strV []]:=Blk.new _ _ _
 have HX:=Hdz bx0
 have HB:=Hdz hb0
 have q0:(w.alloc (.cells #[strV [],strV []] 139)).cell? ⟨w.heap.size,0,none⟩=some (strV []):=bx0.cell 0
 have q1:(w.alloc (.cells #[strV [],strV []] 139)).cell? ⟨w.heap.size,1,none⟩=some (strV []):=bx0.cell 1
 have p0:=bx0.frozen 0
 have p1:=bx0.frozen 1
 clear hc hc0 hb0 bx0
 go_enter Tryz.func117,Tryz.ntmps117
 go_wp2_with (fail)
 go_must (refine HBad.out.mono ?_)
 rintro e w0 ⟨rfl,rfl⟩
 go_wp2_with (fail)
 refine bodyPost_ret (res_row [strV [],strV []] rfl rfl rfl (by kernel_rfl) HX.out) rfl ?_
 exact ⟨rfl,HB.out⟩
theorem pair_ok (i:Nat) (h:PgOk w p c most M cnt) (hc:CurPos w p x root M all i) (hsh:Short all) :
  Calls Tryz.prog 117 #[ptrV x.b] w λ e w'=>∃ q,all[i]? = some q/\e=.returned (.tuple #[pairV q,.bool true])/\Below w.heap.size w w':=by
 obtain ⟨st,its,lo,hi,ps,off,lid,j,hc,hz,⟨i2,hla⟩,hr,hs,hj,rfl⟩:=hc
 obtain ⟨q,ids,hq,hkey,hval⟩:∃ q ids,all[off+j]? = some q/\its[j].key=q.1/\ValAt M its[j] q.2 ids:=by
  have hlen:=hla.item.1
  obtain ⟨hkey,ids,hval⟩:=hla.item.2 j hj (by omega)
  obtain ⟨a,b,hall,hal,_⟩:=hz.pos
  refine ⟨ps[j]'(by omega),ids,?_,hkey,hval⟩
  rw [hall,List.getElem?_append_right (by omega),hal,Nat.add_sub_cancel_left,List.getElem?_append_left (by omega),List.getElem?_eq_getElem (by omega)]
 have hsv:=hsh _ (List.mem_of_getElem? hq)
 have hb0:=(Below.refl w.heap.size w).alloc (Nat.le_refl _) (.cells #[strV [],strV []] 139)
 have hc0:=hc.below hb0
 have HBad:=Hdz (bad_not hc0)
 have c5:(w.alloc (.cells #[strV [],strV []] 139)).cell? ⟨x.b,5,none⟩=some (.bool true):=hc0.blk.cell 5
 have hit:=hc0.its
 unfold OwnsI at hit
 obtain ⟨Bi,di,hie,_⟩:=Sl.of_own hit
 have c3:(w.alloc (.cells #[strV [],strV []] 139)).cell? ⟨x.b,3,none⟩=some (.slice Bi its.length di):=by rw [<- hie];exact hc0.blk.cell 3
 have c4:(w.alloc (.cells #[strV [],strV []] 139)).cell? ⟨x.b,4,none⟩=some (.int .i64 (j:Int)):=hc0.blk.cell 4
 have c0:(w.alloc (.cells #[strV [],strV []] 139)).cell? ⟨x.b,0,none⟩=some (ptrV p):=hc0.blk.cell 0
 rw [hie] at hit
 obtain ⟨_,_,e0,_,_,hcl⟩:=Sl.of_own hit
 cases e0
 obtain ⟨blk,o,rfl,hbl,hcell⟩:=hcl (by omega)
 obtain ⟨i0,i2',i1,i3⟩:=item_4 (w:=w.alloc (.cells #[strV [],strV []] 139)) λ i u hu=>item_cells (n:=its.length) hcell hj i u hu
 have bx0:Blk (w.alloc (.cells #[strV [],strV []] 139)) w.heap.size 139 #[strV [],strV []]:=Blk.new _ _ _
 have hj0:(0:Int)<=(j:Int):=by omega
 have hj1:(j:Int)<(its.length:Int):=by omega
 have HX:=Hdz bx0
 have HB:=Hdz hb0
 have HIE:=Hdz hie
 have HA:=Hdz (Anz h (Anz hval (Anz hkey (Anz hq (Anz hsv hc0)))))
 have hlt:x.b<(w.alloc (.cells #[strV [],strV []] 139)).heap.size:=hc0.blk.lt
 simp only [World.size_alloc] at hlt
 clear hc hz hla hr hs hq hsv hkey hval h hc0 hb0 bx0 hit hie hcl hcell
 generalize hit0:its[j]=it at *
 clear hit0
 obtain ⟨ik,iv,io,isz⟩:=it
 simp only at i0 i1 i2' i3
 go_enter Tryz.func117,Tryz.ntmps117
 go_wp2_with (fail)
 go_must (refine HBad.out.mono ?_)
 rintro e w0 ⟨rfl,rfl⟩
 go_wp2_with (fail)
 refine wRz ?_
 try simp only [lAz]
 refine tA 0 ?_;try simp only [lAz]
 refine tA 1 ?_;try simp only [lAz]
 refine tA 2 ?_;try simp only [lAz]
 refine tA 4 ?_;try simp only [lAz]
 refine tA 5 ?_;try simp only [lAz]
 refine tA 6 ?_;try simp only [lAz]
 refine rA 3 (v:=?_) (hy:=?hy) ?_;case hy=>(intro w hE;have q0:=hE.cell c3;go_simp;try with_reducible rfl)
 try simp only [lAz]
 refine rA 7 (v:=?_) (hy:=?hy) ?_;case hy=>(intro w hE;have q0:=hE.cell c4;go_simp;try with_reducible rfl)
 try simp only [lAz]
 refine tA 8 ?_;try simp only [lAz]
 refine rA 9 (v:=?_) (hy:=?hy) ?_;case hy=>(intro w hE;have q0:=hE.cell i0;have q1:=hE.cell i1;have q2:=hE.cell i2';have q3:=hE.cell i3;go_simp;try with_reducible rfl)
 try simp only [lAz]
 refine rZz 10 λ K hK=>?_;go_simp;apply hK;clear hK K
 refine rZz 11 λ K hK=>?_;go_simp;apply hK;clear hK K
 refine wDz ?_
 obtain ⟨h,hval,hkey,hq,hsv,hc0⟩:=HA.out
 subst hkey
 obtain ⟨Wx,hWx⟩:∃ Wx,Wx=((w.alloc (.cells #[strV [],strV []] 139)).alloc (.cells #[strV q.1,strV iv,.int .i64 io,.int .i64 isz] 223)).drew:=⟨_,rfl⟩
 have hb1:Below (w.alloc (.cells #[strV [],strV []] 139)).heap.size (w.alloc (.cells #[strV [],strV []] 139)) Wx:=by rw [hWx];exact ((Below.refl _ _).alloc (Nat.le_refl _) _).drew
 have hbw:Below w.heap.size w Wx:=HB.out.trans (hb1.mono (by simp))
 have hids:=val_len hval hsv
 have hV:=value_ok ⟨q.1,iv,io,isz⟩ q.2 ids Wx.drew ((h.below hbw).below ((Below.refl _ Wx).drew)) hval hsv (by omega)
 have d0:Wx.cell? ⟨x.b,0,none⟩=some (ptrV p):=(Blk.below' hc0.blk hb1).cell 0
 have bit:Blk Wx (w.heap.size+1) 223 #[strV q.1,strV iv,.int .i64 io,.int .i64 isz]:=by
  rw [hWx]
  exact Blk.new' (by simp)
 have t0:Wx.cell? ⟨w.heap.size+1,0,none⟩=some (strV q.1):=bit.cell 0
 have t1:Wx.cell? ⟨w.heap.size+1,1,none⟩=some (strV iv):=bit.cell 1
 have t2:Wx.cell? ⟨w.heap.size+1,2,none⟩=some (.int .i64 io):=bit.cell 2
 have t3:Wx.cell? ⟨w.heap.size+1,3,none⟩=some (.int .i64 isz):=bit.cell 3
 have bp:Blk Wx w.heap.size 139 #[strV [],strV []]:=Blk.below' HX.out hb1
 have hzx:w.heap.size+1<Wx.heap.size:=bit.lt
 have HV:=Hdz hV
 have HBW:=Hdz (Anz hbw (Anz bit (Anz bp hq)))
 simp only [<- hWx]
 clear hV hbw hb1 hc0 hval hsv hids h hq bit bp c0 c3 c4 c5 i0 i1 i2' i3 hWx
 go_wp2_with (fail)
 refine wRz ?_
 try simp only [lAz]
 refine tA 0 ?_;try simp only [lAz]
 refine tA 1 ?_;try simp only [lAz]
 refine tA 2 ?_;try simp only [lAz]
 refine rA 3 (v:=?_) (hy:=?hy) ?_;case hy=>(intro w hE;have q0:=hE.cell d0;go_simp;try with_reducible rfl)
 try simp only [lAz]
 refine rA 4 (v:=?_) (hy:=?hy) ?_;case hy=>(intro w hE;have q0:=hE.cell t0;have q1:=hE.cell t1;have q2:=hE.cell t2;have q3:=hE.cell t3;go_simp;try with_reducible rfl)
 try simp only [lAz]
 refine rZz 5 λ K hK=>?_;go_simp
 (go_must (refine HV.out.mono ?_);rintro e w2 ⟨rfl,hb2⟩)
 go_simp
 apply hK
 clear hK K
 try simp only [lAz]
 refine tA 6 ?_;try simp only [lAz]
 refine tA 7 ?_;try simp only [lAz]
 refine tA 8 ?_;try simp only [lAz]
 refine rZz 9 λ K hK=>?_;go_simp;apply hK;clear hK K
 refine rZz 10 λ K hK=>?_;go_simp;apply hK;clear hK K
 refine wDz ?_
 obtain ⟨hbw,bit,bp,hq⟩:=HBW.out
 have hb2':Below Wx.heap.size Wx w2:=((Below.refl _ Wx).drew).trans hb2
 have bit2:=Blk.below' bit hb2'
 have bp2:=Blk.below' bp hb2'
 have s0:w2.cell? ⟨w.heap.size+1,0,none⟩=some (strV q.1):=bit2.cell 0
 have r0:w2.cell? ⟨w.heap.size,0,none⟩=some (strV []):=bp2.cell 0
 have r1:w2.cell? ⟨w.heap.size,1,none⟩=some (strV []):=bp2.cell 1
 have f0:=bp2.frozen 0
 have f1:=bp2.frozen 1
 have hbf:Blk ((w2.setCell ⟨w.heap.size,0,none⟩ (strV q.1)).setCell ⟨w.heap.size,1,none⟩ (strV q.2)) w.heap.size 139 #[strV q.1,strV q.2]:=(bp2.set 0 (strV q.1)).set 1 (strV q.2)
 have hbe:Below w.heap.size w ((w2.setCell ⟨w.heap.size,0,none⟩ (strV q.1)).setCell ⟨w.heap.size,1,none⟩ (strV q.2)):=((hbw.trans (hb2'.mono (by omega))).setCell (p:=⟨w.heap.size,0,none⟩) (Nat.le_refl _) _).setCell (p:=⟨w.heap.size,1,none⟩) (Nat.le_refl _) _
 have HBE:=Hdz (Anz hbe hq)
 have HBF:=Hdz hbf
 clear hbw bit bp hq hb2' bit2 bp2 hbf hbe hb2
 go_wp2_with (fail)
 refine bodyPost_ret (res_row [strV q.1,strV q.2] rfl rfl rfl (by kernel_rfl) HBF.out) rfl ?_
 exact ⟨q,HBE.out.2,rfl,HBE.out.1⟩
end
theorem aheadP_app {k:Bytes}:∀ {a b:List Pair},(∀ q∈a,lessB q.1 k=true)->aheadP k (a++b)=a.length+aheadP k b
 | [],b,_=>by simp
 | q :: a,b,h=>by
  simp only [List.cons_append,aheadP,List.length_cons]
  rw [if_pos (h q (List.mem_cons_self ..)),aheadP_app λ z hz=>h z (List.mem_cons_of_mem _ hz)]
  omega
theorem aheadP_stop {k:Bytes}:∀ {a b:List Pair},(∀ q∈b,lessB q.1 k=false)->aheadP k (a++b)=aheadP k a
 | [],[],_=>rfl
 | [],q :: b,h=>by simp [aheadP,h q (List.mem_cons_self ..)]
 | q :: a,b,h=>by
  simp only [List.cons_append,aheadP]
  rw [aheadP_stop h]
theorem ahead_leaf {M:Store} {k:Bytes}:∀ {l:List Item} {ps:List Pair} {ids:List Int},LeafAt M l ps ids->ahead k l=aheadP k ps
 | [],_,_,⟨h,_⟩=>by subst h;rfl
 | x :: l,_,_,⟨v,ps',i1,i2,h1,h2,h3,h4⟩=>by
  subst h1
  simp only [ahead,aheadP]
  rw [ahead_leaf h4]
theorem ahead_zip {M:Store} {all ps:List Pair} {id:Int} {lo:Bytes} {hi:Option Bytes} {off:Nat} {path:List (List Child × Nat)} {its:List Item} {i2:List Int} {key:Bytes} (hz:Zip M 1 all 0 id lo hi ps off path) (hla:LeafAt M its ps i2) (hin:inR lo hi key):aheadP key all=off+ahead key its:=by
 obtain ⟨a,b,e1,e2,e3,e4⟩:=hz.pos
 rw [e1,aheadP_app λ q hq=>lessB_of_lt_le (e3 q hq) hin.1,e2,aheadP_stop,ahead_leaf hla]
 intro q hq
 obtain ⟨u,hu,hl⟩:=e4 q hq
 cases hc:lessB q.1 key
 ·rfl
 ·have:=lessB_trans hc (hin.2 u hu)
  rw [this] at hl
  cases hl
section
variable {p most cnt:Nat} {c:Pc} {M:Store} {all:List Pair} {x:Cc} {root:Int} {w:World} {st:List CStep} {items:List Item} {at':Int} {on:Bool}
theorem seek_picks {key:Bytes}:Picks M all (λ L=>findC key L) (λ lo hi _ _=>inR lo hi key):=by
 intro L lo hi ps off lo' hi' ps' off' hL h1 h2 h3 h4
 exact h3 key h4 rfl
theorem seek_ok (kk:Nat) (ids:List Int) (key:Bytes) (h:PgOk w p c most M cnt) (hT:TopAt M kk root all ids) (hlow:kk<30) (hc:CurAt w p x root st items at' on) (hn:∀ j,c.S p j->¬ x.S j) :
  Calls Tryz.prog 115 #[ptrV x.b,strV key] w (GoesP p x root M all (if aheadP key all<all.length then some (aheadP key all) else none) w):=by
 obtain ⟨R,hR⟩:∃ R:Option Nat,R=if aheadP key all<all.length then some (aheadP key all) else none:=⟨_,rfl⟩
 rw [<- hR]
 have HR:=Hdz hR
 clear hR
 have hb0:=(Below.refl w.heap.size w).alloc (Nat.le_refl _) (.cells #[strV key] 9)
 have bk:Blk (w.alloc (.cells #[strV key] 9)) w.heap.size 9 #[strV key]:=Blk.new _ _ _
 have hc0:=hc.below hb0
 have hkx:¬ x.S w.heap.size:=λ e=>by have:=hc.lt _ e;omega
 have HBad:=Hdz (bad_not hc0)
 have HRe:=Hdz (reset_ok hc0)
 have HH:=Hdz (Anz h (Anz hT (Anz hc (Anz hn (Anz hb0 (Anz bk (Anz hkx hlow)))))))
 clear h hT hc hn hc0 hb0 bk hkx hlow
 go_enter Tryz.func115,Tryz.ntmps115
 go_wp2_with (fail)
 go_must (refine HBad.out.mono ?_)
 rintro e w0 ⟨rfl,rfl⟩
 go_wp2_with (fail)
 go_must (refine HRe.out.mono ?_)
 rintro e w1 ⟨rfl,hc1,hk1⟩
 obtain ⟨h,hT,hc,hn,hb0,bk,hkx,hlow⟩:=HH.out
 have hk01:=(CurK.of_below (x:=x) hb0).trans hk1
 have hpg1:=h.keeps hk01.keeps hn
 have hn1:=hk01.hn h hn
 have bk1:=bk.keeps hk1.keeps hkx
 have c1:w1.cell? ⟨x.b,1,none⟩=some (.int .i64 root):=hc1.blk.cell 1
 have hkx1:¬ (⟨x.b,.slice none 0 0,.slice none 0 0⟩:Cc).S w.heap.size:=λ e=>by
  rcases e with e | e
  ·exact hkx (.inl e)
  ·cases e
 have hD:=down_ok 163 #[.pointer (some ⟨w.heap.size,0,none⟩)] (λ L=>findC key L) (λ lo hi _ _=>inR lo hi key) (enters_of Tryz.func163 (by kernel_rfl) rfl) (λ L hL=>by
   cases L with
   | nil=>exact absurd rfl hL
   | cons a b=>exact findC_lt)
  (λ W A n d L hW hO hr hl hn=>(seekpick_any A n d w.heap.size L key W ((bk1.keeps hW hkx1).cell 0) (by have:=Sl.of_own hO;rw [hl] at this;exact this) (by omega) hr).mono λ e w' ⟨h1,h2⟩=>⟨h1,h2 ▸ Below.refl _ _⟩) seek_picks
  kk root [] none all 0 [] [] 0 false hpg1 hc1 hn1 (.root hT.tree hT.wide hlow) (by simpa using hlow) ⟨lessB_nil _,λ u hu=>by cases hu⟩
 have HD:=Hdz hD
 have HK:=Hdz (Anz hk01 bk1)
 clear h hT hc hn hb0 bk hkx hlow hc1 hk1 hk01 hpg1 hn1 hD bk1 hkx1
 go_wp2_with (fail)
 go_must (refine HD.out.mono ?_)
 rintro e w2 ⟨x2,st2,its,lo,hi,ps,off,lid,rfl,hc2,hk2,hz2,⟨i2,hla⟩,hr,hs,hne,hq⟩
 have hxb:x2.b=x.b:=hk2.same
 obtain ⟨h,hT,hc,hn,hb0,bk,hkx,hlow⟩:=HH.out
 obtain ⟨hk01,bk1⟩:=HK.out
 have hk02:=hk01.trans hk2
 have hpg2:=h.keeps hk02.keeps hn
 have hn2:=hk02.hn h hn
 have hkx1:¬ (⟨x.b,.slice none 0 0,.slice none 0 0⟩:Cc).S w.heap.size:=λ e=>by
  rcases e with e | e
  ·exact hkx (.inl e)
  ·cases e
 have bk2:=bk1.keeps hk2.keeps hkx1
 have hahead:=ahead_zip hz2 hla hq
 have hlen:=hla.item.1
 have hl240:its.length<=240:=by have:=layI_ge0 its;omega
 have hit:=hc2.its
 unfold OwnsI at hit
 obtain ⟨Bi,di,hie,_⟩:=Sl.of_own hit
 have c3:w2.cell? ⟨x.b,3,none⟩=some (.slice Bi its.length di):=by rw [<- hxb,<- hie];exact hc2.blk.cell 3
 have ck:w2.cell? ⟨w.heap.size,0,none⟩=some (strV key):=bk2.cell 0
 rw [hie] at hit
 have hF:=findI_any Bi its.length di its key w2.drew (Sl.of_own hit) (by omega) hr
 have hF2:=Hdz hF
 have hale:=ahead_le key its
 have HA:=Hdz (Anz hc2 (Anz hk02 (Anz hz2 (Anz hla (Anz hr (Anz hs (Anz hne (Anz hpg2 (Anz hn2 (Anz hahead (Anz hlen (Anz hie hlow))))))))))))
 have hc3c:Hid (∀ W,Below w2.heap.size w2 W->W.cell? ⟨x.b,3,none⟩=some (.slice Bi its.length di)):=λ W hW=>by rw [<- hxb,<- hie];exact (Blk.below' hc2.blk hW).cell 3
 clear h hT hc hn hb0 bk hkx hlow hk01 bk1 hk02 hpg2 hn2 hkx1 bk2 hahead hit hF hc2 hk2 hz2 hla hr hs hne hlen hie
 go_wp2_with (fail)
 refine wRz ?_
 try simp only [lAz]
 refine tA 0 ?_;try simp only [lAz]
 refine tA 1 ?_;try simp only [lAz]
 refine tA 2 ?_;try simp only [lAz]
 refine rA 3 (v:=?_) (hy:=?hy) ?_;case hy=>(intro w hE;have q0:=hE.cell c3;go_simp;try with_reducible rfl)
 try simp only [lAz]
 refine rA 4 (v:=?_) (hy:=?hy) ?_;case hy=>(intro w hE;have q0:=hE.cell ck;go_simp;try with_reducible rfl)
 try simp only [lAz]
 refine rZz 5 λ K hK=>?_;go_simp
 (go_must (refine hF2.out.mono ?_);rintro e w3 ⟨rfl,hb3⟩)
 go_simp
 apply hK
 clear hK K
 try simp only [lAz]
 refine tA 6 ?_;try simp only [lAz]
 refine tA 7 ?_;try simp only [lAz]
 refine tA 8 ?_;try simp only [lAz]
 refine rZz 9 λ K hK=>?_;go_simp;apply hK;clear hK K
 refine rZz 10 λ K hK=>?_;go_simp;apply hK;clear hK K
 refine wDz ?_
 obtain ⟨hc2,hk02,hz2,hla,hr,hs,hne,hpg2,hn2,hahead,hlen,hie,hlow⟩:=HA.out
 have hb23:Below w2.heap.size w2 w3:=((Below.refl _ w2).drew).trans hb3
 have hc3:=hc2.below hb23
 have c3':=hc3c.out w3 hb23
 by_cases hlt:ahead key its<its.length
 ·have hlt':((ahead key its:Nat):Int)<(its.length:Int):=by omega
  have hS:=stand_ok hc3 (ahead key its) hlt
  rw [hxb] at hS
  have HS:=Hdz hS
  have HB:=Hdz hb23
  clear hS hc2 hk02 hz2 hla hr hs hne hpg2 hn2 hahead hlen hie hlow hb23 hc3 hb3
  go_wp2_with (fail)
  go_must (refine HS.out.mono ?_)
  rintro e w4 ⟨rfl,r1,r2⟩
  have HR2:=Hdz (Anz r1 r2)
  clear r1 r2
  go_wp2_with (fail)
  go_ret
  obtain ⟨hc2,hk02,hz2,hla,hr,hs,hne,hpg2,hn2,hahead,hlen,hie,hlow⟩:=HA.out
  have hzl:=hz2.len
  rw [HR.out,if_pos (by omega),hahead]
  exact ⟨rfl,x2,⟨st2,its,lo,hi,ps,off,lid,ahead key its,HR2.out.1,hz2,⟨_,hla⟩,hr,hs,hlt,rfl⟩,(hk02.trans (CurK.of_below HB.out)).trans HR2.out.2⟩
 ·have hlt':¬ ((ahead key its:Nat):Int)<(its.length:Int):=by omega
  have hO:=overN_ok lid lo hi ps off (off+ps.length) (hpg2.below hb23) hc3 hn2 hz2 rfl
  rw [hxb] at hO
  have HO:=Hdz hO
  have HB:=Hdz hb23
  clear hO hc2 hk02 hz2 hla hr hs hne hpg2 hn2 hahead hlen hie hlow hb23 hc3 hb3
  go_wp2_with (fail)
  go_must (refine HO.out.mono ?_)
  rintro e w4 hov
  unfold OverP at hov
  by_cases hT:off+ps.length<all.length
  ·rw [decide_eq_true hT] at hov
   simp only [if_true] at hov
   obtain ⟨x3,st3,its3,lo3,hi3,ps3,off3,lid3,rfl,q1,q2,q3,⟨i3,q4⟩,q5,q6,q7,q8⟩:=hov
   have hxb3:=q2.same.trans hxb
   have hlen3:=q4.item.1
   have hne3:its3≠[]:=by
    by_cases h0:st3=[]
    ·subst h0
     obtain ⟨e1,e2⟩:=Zip.top q3
     rintro rfl
     subst e1
     simp at hlen3
     omega
    ·exact q7 h0
   have hp:=List.length_pos_iff.2 hne3
   have hS:=stand_ok q1 0 hp
   rw [hxb3] at hS
   have HS:=Hdz hS
   have HQ:=Hdz (Anz q2 (Anz q3 (Anz q4 (Anz q5 (Anz q6 (Anz q8 (Anz hp hT)))))))
   clear hS q1 q2 q3 q4 q5 q6 q7 q8 hp hne3 hT hlen3
   go_wp2_with (fail)
   go_must (refine HS.out.mono ?_)
   rintro e w5 ⟨rfl,r1,r2⟩
   have HR2:=Hdz (Anz r1 r2)
   clear r1 r2
   go_wp2_with (fail)
   go_ret
   obtain ⟨q2,q3,q4,q5,q6,q8,hp,hT⟩:=HQ.out
   obtain ⟨hc2,hk02,hz2,hla,hr,hs,hne,hpg2,hn2,hahead,hlen,hie,hlow⟩:=HA.out
   rw [HR.out,if_pos (by omega),hahead]
   exact ⟨rfl,x3,⟨st3,its3,lo3,hi3,ps3,off3,lid3,0,HR2.out.1,q3,⟨_,q4⟩,q5,q6,hp,by omega⟩,((hk02.trans (CurK.of_below HB.out)).trans q2).trans HR2.out.2⟩
  ·rw [decide_eq_false hT] at hov
   simp only [Bool.false_eq_true,if_false] at hov
   obtain ⟨rfl,q1,q2⟩:=hov
   have HQ:=Hdz (Anz q1 (Anz q2 hT))
   clear q1 q2 hT
   go_wp2_with (fail)
   go_ret
   obtain ⟨q1,q2,hT⟩:=HQ.out
   obtain ⟨hc2,hk02,hz2,hla,hr,hs,hne,hpg2,hn2,hahead,hlen,hie,hlow⟩:=HA.out
   rw [HR.out,if_neg (by omega)]
   exact ⟨rfl,_,⟨_,_,_,q1⟩,(hk02.trans (CurK.of_below HB.out)).trans q2⟩
end
def CurSt (w:World) (p:Nat) (x:Cc) (root:Int) (M:Store) (all:List Pair):Option Nat->Prop
 | some i=>CurPos w p x root M all i
 | none=>CurNo w p x root
section
variable {p most cnt B b:Nat} {c:Pc} {M:Store} {all:List Pair} {x:Cc} {root:Int} {w w':World} {o:Option Nat}
theorem CurSt.at (h:CurSt w p x root M all o):∃ st items j on,CurAt w p x root st items j on:=by
 cases o with
 | some i=>obtain ⟨st,its,_,_,_,_,_,j,hc,_⟩:=h;exact ⟨st,its,_,_,hc⟩
 | none=>obtain ⟨st,its,j,hc⟩:=h;exact ⟨st,its,j,_,hc⟩
theorem CurSt.below (h:CurSt w p x root M all o) (hb:Below w.heap.size w w'):CurSt w' p x root M all o:=by
 cases o with
 | some i=>obtain ⟨st,its,lo,hi,ps,off,lid,j,hc,hr⟩:=h;exact ⟨st,its,lo,hi,ps,off,lid,j,hc.below hb,hr⟩
 | none=>obtain ⟨st,its,j,hc⟩:=h;exact ⟨st,its,j,hc.below hb⟩
structure CSt (B:Nat) (F:Nat->Prop) (p b:Nat) (c:Pc) (most cnt:Nat) (M:Store) (root:Int) (all:List Pair) (o:Option Nat) (w:World):Prop where
 pg:PgOk w p c most M cnt
 size:B<=w.heap.size
 old:∀ k,F k->k<w.heap.size
 cur:∃ x:Cc,x.b=b/\CurSt w p x root M all o/\(∀ j,c.S p j->¬ x.S j)/\∀ k,x.S k->B<=k/\¬ F k
def Frm (B:Nat) (F:Nat->Prop) (k:Nat):Prop:=B<=k/\¬ F k
theorem CurSt.lt (h:CurSt w p x root M all o):∀ k,x.S k->k<w.heap.size:=by
 obtain ⟨st,its,j,on,hc⟩:=h.at
 exact hc.lt
theorem CSt.also {F F':Nat->Prop} (h:CSt B F p b c most cnt M root all o w) (hb:Below w.heap.size w w') (hF:∀ k,F' k->F k\/w.heap.size<=k/\k<w'.heap.size):CSt B F' p b c most cnt M root all o w':=by
 obtain ⟨x,h1,h2,h3,h4⟩:=h.cur
 refine ⟨h.pg.below hb,Nat.le_trans h.size hb.size,λ k hk=>?_,x,h1,h2.below hb,h3,λ k hk=>⟨(h4 k hk).1,λ hf=>?_⟩⟩
 ·rcases hF k hk with h' | h'
  ·exact Nat.lt_of_lt_of_le (h.old k h') hb.size
  ·exact h'.2
 ·rcases hF k hf with h' | h'
  ·exact (h4 k hk).2 h'
  ·have:=h2.lt k hk
   omega
theorem CSt.below {F:Nat->Prop} (h:CSt B F p b c most cnt M root all o w) (hb:Below w.heap.size w w'):CSt B F p b c most cnt M root all o w':=h.also hb λ _ h=>.inl h
def CStP (B:Nat) (F:Nat->Prop) (p b:Nat) (c:Pc) (most cnt:Nat) (M:Store) (root:Int) (all:List Pair) (o:Option Nat) (w:World) (e:Ending) (w':World):Prop:=
 e=.returned (.bool o.isSome)/\CSt B F p b c most cnt M root all o w'/\Keeps (Frm B F) w w'
theorem goes_st {e:Ending} {F:Nat->Prop} (h:PgOk w p c most M cnt) (hB:B<=w.heap.size) (hF:∀ k,F k->k<w.heap.size) (hb:x.b=b) (hn:∀ j,c.S p j->¬ x.S j) (hx:∀ k,x.S k->B<=k/\¬ F k) (hg:GoesP p x root M all o w e w'):CStP B F p b c most cnt M root all o w e w':=by
 obtain ⟨rfl,x',h1,hk⟩:=hg
 have hz:=hk.keeps.size
 refine ⟨rfl,⟨h.keeps hk.keeps λ k h1 h2=>hn k h1 h2,Nat.le_trans hB hz,λ k hk=>Nat.lt_of_lt_of_le (hF k hk) hz,x',hk.same.trans hb,?_,hk.hn h hn,λ k e=>?_⟩,hk.keeps.mono λ i hi e=>hx i e⟩
 ·cases o<;>exact h1
 ·rcases hk.sub k e with e | e
  ·exact hx k e
  ·exact ⟨by omega,λ hf=>by have:=hF k hf;omega⟩
theorem seek_st {F:Nat->Prop} (key:Bytes) (hT:TreeL M root all) (h:CSt B F p b c most cnt M root all o w) :
  Calls Tryz.prog 115 #[ptrV b,strV key] w (CStP B F p b c most cnt M root all (if aheadP key all<all.length then some (aheadP key all) else none) w):=by
 obtain ⟨x,rfl,h2,h3,h4⟩:=h.cur
 obtain ⟨st,its,j,on,hc⟩:=h2.at
 obtain ⟨kk,ids,hA,hL⟩:=hT.ex
 exact (seek_ok kk ids key h.pg hA hL hc h3).mono λ e w' hg=>goes_st h.pg h.size h.old rfl h3 h4 hg
theorem next_st {F:Nat->Prop} {i:Nat} (h:CSt B F p b c most cnt M root all (some i) w) :
  Calls Tryz.prog 116 #[ptrV b] w (CStP B F p b c most cnt M root all (if i+1<all.length then some (i+1) else none) w):=by
 obtain ⟨x,rfl,h2,h3,h4⟩:=h.cur
 exact (next_ok i h.pg h2 h3).mono λ e w' hg=>goes_st h.pg h.size h.old rfl h3 h4 hg
theorem err_st {F:Nat->Prop} (h:CSt B F p b c most cnt M root all o w) :
  Calls Tryz.prog 118 #[ptrV b] w λ e w'=>e=.returned (.int .i64 0)/\w=w':=by
 obtain ⟨x,rfl,h2,h3,h4⟩:=h.cur
 obtain ⟨st,its,j,on,hc⟩:=h2.at
 exact err_ok hc
def pairAt (all:List Pair):Option Nat->Pair × Bool
 | some i=>(all[i]?.getD ([],[]),true)
 | none=>(([],[]),false)
theorem pair_st {F:Nat->Prop} (hT:TreeL M root all) (h:CSt B F p b c most cnt M root all o w) :
  Calls Tryz.prog 117 #[ptrV b] w λ e w'=>e=.returned (.tuple #[pairV (pairAt all o).1,.bool (pairAt all o).2])/\Below w.heap.size w w':=by
 obtain ⟨x,rfl,h2,h3,h4⟩:=h.cur
 cases o with
 | some i =>
  refine (pair_ok i h.pg h2 hT.short).mono ?_
  rintro e w' ⟨q,h1,rfl,hb⟩
  exact ⟨by simp [pairAt,h1],hb⟩
 | none =>
  obtain ⟨st,its,j,hc⟩:=h2
  exact pair_no hc
theorem new_st (hT:PgOk w p c most M cnt) :
  Calls Tryz.prog 114 #[ptrV p,.int .i64 root] w λ e w'=>∃ b,e=.returned (ptrV b)/\CSt w.heap.size (λ _=>False) p b c most cnt M root all none w'/\Below w.heap.size w w':=by
 refine (new_any root w).mono ?_
 rintro e w' ⟨x,rfl,hc,hx,hb⟩
 exact ⟨x.b,rfl,⟨hT.below hb,hb.size,λ k h=>h.elim,x,rfl,⟨_,_,_,hc⟩,λ j hj e=>by have:=hT.lt j hj;have:=hx j e;omega,λ k e=>⟨hx k e,λ h=>h⟩⟩,hb⟩
end
theorem own_row {w:World} {base z n:Nat} {e:TypeId} {v:Value} {xs:List Value} (h:w.ownsRow base e z v n xs) (k:Nat) (hk:v.ownBlock=some k):∃ cur,w.heap[k]? = some (.cells cur e (0,0)):=by
 rcases h.2 with ⟨rfl,_⟩ | ⟨g,cap,cur,rfl,_,hg,_⟩
 ·cases hk
 ·simp only [Value.ownBlock,Option.some.injEq] at hk
  subst hk
  exact ⟨cur,hg⟩
theorem below_frm {B:Nat} {F:Nat->Prop} {w w':World} (h:Keeps (Frm B F) w w') (hB:B<=w.heap.size):Below B w w':=h.below hB λ i hi e=>by have:=e.1;omega
section
variable {p mst cnt B b:Nat} {c:Pc} {M:Store} {all:List Pair} {x:Cc} {root:Int} {w w':World} {o:Option Nat}
theorem CurSt.turnP {S:Nat->Prop} (h:CurSt w p x root M all o) (hk:Keeps S w w') (hS:∀ k,S k->k<w.heap.size->∃ cs fr,w.heap[k]? = some (.cells cs 139 fr)):CurSt w' p x root M all o:=by
 have key:∀ {st items j on},CurAt w p x root st items j on->CurAt w' p x root st items j on:=λ {st items j on} hc=>by
  refine hc.keeps hk ?_ ?_ ?_
  ·rintro k (rfl | hk') hs
   ·have hb:=hc.blk
    obtain ⟨cs,fr,hp⟩:=hS _ hs hb.lt
    unfold Blk at hb
    rw [hb] at hp
    cases hp
   ·obtain ⟨cur,hr⟩:=own_row hc.path k hk'
    obtain ⟨cs,fr,hp⟩:=hS _ hs (hc.path.lt k hk').2
    rw [hr] at hp
    cases hp
  ·intro s hm j hj hs
   have hO:=(hc.kids s hm).1
   unfold OwnsC at hO
   obtain ⟨cur,hr⟩:=own_row hO j hj
   obtain ⟨cs,fr,hp⟩:=hS _ hs (hO.lt j hj).2
   rw [hr] at hp
   cases hp
  ·intro j hj hs
   have hO:=hc.its
   unfold OwnsI at hO
   obtain ⟨cur,hr⟩:=own_row hO j hj
   obtain ⟨cs,fr,hp⟩:=hS _ hs (hO.lt j hj).2
   rw [hr] at hp
   cases hp
 cases o with
 | some i=>obtain ⟨st,its,lo,hi,ps,off,lid,j,hc,hr⟩:=h;exact ⟨st,its,lo,hi,ps,off,lid,j,key hc,hr⟩
 | none=>obtain ⟨st,its,j,hc⟩:=h;exact ⟨st,its,j,key hc⟩
theorem CSt.turnP {S F F':Nat->Prop} (h:CSt B F p b c mst cnt M root all o w) (hk:Keeps S w w') (hS:∀ k,S k->k<w.heap.size->∃ cs fr,w.heap[k]? = some (.cells cs 139 fr)) (hSB:∀ k,S k->B<=k) (hcB:∀ k,c.S p k->k<B)
  (hF:∀ k,F' k->F k\/S k/\k<w.heap.size\/w.heap.size<=k/\k<w'.heap.size):CSt B F' p b c mst cnt M root all o w':=by
 obtain ⟨x,h1,h2,h3,h4⟩:=h.cur
 refine ⟨h.pg.keeps hk λ k hk1 hk2=>by have:=hcB k hk1;have:=hSB k hk2;omega,Nat.le_trans h.size hk.size,λ k hk'=>?_,x,h1,h2.turnP hk hS,h3,λ k hk'=>⟨(h4 k hk').1,λ hf=>?_⟩⟩
 ·have hz:=hk.size
  rcases hF k hk' with h' | h' | h'
  ·exact Nat.lt_of_lt_of_le (h.old k h') hz
  ·omega
  ·exact h'.2
 ·have hlt:=h2.lt k hk'
  rcases hF k hf with h' | h' | h'
  ·exact (h4 k hk').2 h'
  ·obtain ⟨cs,fr,hp⟩:=hS k h'.1 h'.2
   obtain ⟨st,its,j,on,hc⟩:=h2.at
   rcases hk' with rfl | hk'
   ·have hb:=hc.blk
    unfold Blk at hb
    rw [hb] at hp
    cases hp
   ·obtain ⟨cur,hr⟩:=own_row hc.path k hk'
    rw [hr] at hp
    cases hp
  ·omega
end
end Go.Ev
namespace Go.Ev
def stopR (hi:Bytes) (most:Int) (n:Nat) (q:Pair):Bool:=(decide (hi≠[]) && !lessB q.1 hi) || (decide (0<most) && decide (most<=(n:Int)))
def goR (hi:Bytes) (most:Int):Nat->List Pair->List Pair
 | _,[]=>[]
 | n,q :: l=>if stopR hi most n q then [] else q :: goR hi most (n+1) l
def rangeP (lo hi:Bytes) (most:Int) (ps:List Pair):List Pair:=goR hi most 0 (ps.drop (aheadP lo ps))
theorem stopR_free (hi:Bytes) (n:Nat) (q:Pair):stopR hi 0 n q=(decide (hi≠[]) && !lessB q.1 hi):=by simp [stopR]
theorem goR_free (hi:Bytes):∀ (n m:Nat) (l:List Pair),goR hi 0 n l=goR hi 0 m l
 | _,_,[]=>rfl
 | n,m,q :: l=>by
  simp only [goR,stopR_free]
  rw [goR_free hi (n+1) (m+1) l]
open Go.Proofs Go.RowKit
def clipV:Value->Value
 | .slice A n _=>.slice A n n
 | v=>v
def ClipAt (w:World) (B:Nat) (v:Value) (l:List Pair):Prop:=∃ u,w.ownsRow B 139 2 u l.length (pairsCs l)/\v=clipV u
theorem ClipAt.sl {w:World} {B:Nat} {v:Value} {l:List Pair} (h:ClipAt w B v l):∃ A,v=.slice A l.length l.length/\(A=none->l.length=0)/\Sl w 2 (.slice A l.length l.length) l.length (pairsCs l):=by
 obtain ⟨u,h1,rfl⟩:=h
 obtain ⟨A,c,e,h2,h3,h4⟩:=Sl.of_own h1
 rcases h1.2 with ⟨rfl,h0⟩ | ⟨g,cap,cur,rfl,_⟩
 ·refine ⟨none,by rw [h0];rfl,λ _=>h0,?_⟩
  rw [h0,List.eq_nil_of_length_eq_zero h0]
  exact Sl.nil ..
 ·simp only [Value.slice.injEq] at e
  obtain ⟨rfl,_,rfl⟩:=e
  exact ⟨_,rfl,(λ e=>by cases e),_,_,rfl,Nat.le_refl _,h3,h4⟩
theorem ClipAt.below {w w':World} {B:Nat} {v:Value} {l:List Pair} (h:ClipAt w B v l) (hb:Below w.heap.size w w'):ClipAt w' B v l:=by
 obtain ⟨u,h1,h2⟩:=h
 exact ⟨u,own_below h1 hb,h2⟩
theorem clip_any (B:Nat) (u:Value) (n:Nat) (xs:List Value) (w:World) (h:w.ownsRow B 139 2 u n xs) (hn:n<=1000000) :
  Calls Tryz.prog 119 #[u] w λ e w'=>e=.returned (clipV u)/\w=w':=by
 rcases h.2 with ⟨rfl,h0⟩ | ⟨g,cap,cur,rfl,_,_,hnc,_⟩
 ·go_enter Tryz.func119,Tryz.ntmps119
  go_wp2
  go_ret
  exact ⟨rfl,rfl⟩
 ·have hn0:(0:Int)<=(n:Int):=by omega
  go_enter Tryz.func119,Tryz.ntmps119
  go_wp2
  go_ret
  exact ⟨rfl,rfl⟩
section
variable {p mst cnt:Nat} {c:Pc} {M:Store}
def RangePost (B:Nat) (l:List Pair) (w:World) (e:Ending) (w':World):Prop:=∃ v,e=.returned (.tuple #[v,.int .i64 0])/\ClipAt w' B v l/\Below w.heap.size w w'
structure RgI (G:Nat->Prop) (w:World) (p b:Nat) (c:Pc) (mst cnt:Nat) (M:Store) (root:Int) (all:List Pair) (lo hi:Bytes) (most:Int) (i:Nat) (acc:List Pair) (v:Value) (W:World):Prop where
 st:CSt w.heap.size (λ k=>G k\/v.ownBlock=some k) p b c mst cnt M root all (if i<all.length then some i else none) W
 own:W.ownsRow w.heap.size 139 2 v acc.length (pairsCs acc)
 law:acc++goR hi most acc.length (all.drop i)=rangeP lo hi most all
 bl:Below w.heap.size w W
 len:acc.length<=i
theorem RgI.done {G:Nat->Prop} {w W:World} {b:Nat} {root:Int} {all:List Pair} {lo hi:Bytes} {most:Int} {i:Nat} {acc:List Pair} {v:Value} (h:RgI G w p b c mst cnt M root all lo hi most i acc v W) (hs:∀ q,all[i]? = some q->stopR hi most acc.length q=true):acc=rangeP lo hi most all:=by
 rw [<- h.law]
 cases hd:all.drop i with
 | nil=>simp [goR]
 | cons q l =>
  have:all[i]? = some q:=by
   have h1:(all.drop i)[0]? = some q:=by rw [hd];rfl
   rw [List.getElem?_drop] at h1
   simpa using h1
  simp [goR,hs q this]
theorem RgI.next {G:Nat->Prop} {w W w3 w4:World} {b:Nat} {root:Int} {all:List Pair} {lo hi:Bytes} {most:Int} {i:Nat} {acc:List Pair} {v v':Value} {q:Pair} (h:RgI G w p b c mst cnt M root all lo hi most i acc v W) (hlt:i<all.length) (hq:all[i]? = some q) (hs:stopR hi most acc.length q=false)
  (hb3:Below W.heap.size W w3) (hcB:∀ k,c.S p k->k<w.heap.size) (hown:w4.ownsRow w.heap.size 139 2 v' (acc.length+1) (pairsCs acc++pairsCs [q])) (hg:w3.grownBy w4 v.ownBlock) (hat:∀ k,v'.ownBlock=some k->v.ownBlock=some k\/w3.heap.size<=k) :
  CSt w.heap.size (λ k=>G k\/v'.ownBlock=some k) p b c mst cnt M root all (some i) w4/\w4.ownsRow w.heap.size 139 2 v' (acc++[q]).length (pairsCs (acc++[q]))/\(acc++[q])++goR hi most (acc++[q]).length (all.drop (i+1))=rangeP lo hi most all/\Below w.heap.size w w4:=by
 have hst:=h.st
 rw [if_pos hlt] at hst
 have hown3:=own_below h.own hb3
 have hz3:=hb3.size
 have hzw:=h.bl.size
 refine ⟨(hst.below hb3).turnP ((Keeps.refl (λ k=>v.ownBlock=some k) w3).grown hg (λ k e _=>e)) (λ k hk hl=>?_) (λ k hk=>(h.own.lt k hk).1) hcB (λ k hk=>?_),?_,?_,?_⟩
 ·obtain ⟨cur,hr⟩:=own_row hown3 k hk
  exact ⟨cur,_,hr⟩
 ·rcases hk with hk | hk
  ·exact .inl (.inl hk)
  rcases hat k hk with e | e
  ·exact .inl (.inr e)
  ·exact .inr (.inr ⟨e,(hown.lt k hk).2⟩)
 ·rw [pairsCs_app,List.length_append]
  exact hown
 ·rw [<- h.law]
  have hd:all.drop i=q :: all.drop (i+1):=by
   rw [List.drop_eq_getElem_cons hlt]
   rw [List.getElem?_eq_getElem hlt,Option.some.injEq] at hq
   rw [hq]
  rw [hd]
  simp [goR,hs]
 ·exact (h.bl.trans (hb3.mono hzw)).grown hg (by omega) (λ k hk=>(h.own.lt k hk).1)
theorem RgI.go {G:Nat->Prop} {w w5 w6:World} {b:Nat} {root:Int} {all:List Pair} {lo hi:Bytes} {most:Int} {i:Nat} {acc:List Pair} {v':Value} {q:Pair} {e:Ending} (hx:w5.ownsRow w.heap.size 139 2 v' (acc++[q]).length (pairsCs (acc++[q]))/\(acc++[q])++goR hi most (acc++[q]).length (all.drop (i+1))=rangeP lo hi most all/\Below w.heap.size w w5) (hle:acc.length<=i)
  (hs:CStP w.heap.size (λ k=>G k\/v'.ownBlock=some k) p b c mst cnt M root all (if i+1<all.length then some (i+1) else none) w5 e w6):e=.returned (.bool (decide (i+1<all.length)))/\RgI G w p b c mst cnt M root all lo hi most (i+1) (acc++[q]) v' w6:=by
 obtain ⟨h1,h2,h3⟩:=hx
 obtain ⟨rfl,s1,s2⟩:=hs
 have hbo:(if i+1<all.length then some (i+1) else none:Option Nat).isSome=decide (i+1<all.length):=by
  by_cases hlt:i+1<all.length
  ·simp [hlt]
  ·simp [hlt]
 refine ⟨by rw [hbo],s1,own_keeps h1 s2 (λ k hk hf=>hf.2 (.inr hk)),h2,h3.trans (below_frm s2 h3.size),?_⟩
 rw [List.length_append]
 simp
 omega
theorem range_any (root:Int) (lo hi:Bytes) (most:Int) (all:List Pair) (w:World) (h:PgOk w p c mst M cnt) (hT:TreeL M root all) (hlen:all.length<=100000) :
  Calls Tryz.prog 75 #[ptrV p,.int .i64 root,strV lo,strV hi,.int .i64 most] w (RangePost w.heap.size (rangeP lo hi most all) w):=by
 obtain ⟨i0,hinf,q0,q1,q2⟩:=info_parts infoPair
 have hcB:=h.lt
 have HCB:=Hdz hcB
 have HN:=Hdz (new_st (root:=root) (all:=all) h)
 clear h hcB
 go_enter Tryz.func75,Tryz.ntmps75
 go_wp2_with (fail)
 go_must (refine HN.out.mono ?_)
 rintro e w1 ⟨b,rfl,hst,hb1⟩
 have HB1:=Hdz hb1
 have HS:=Hdz (seek_st lo hT hst)
 have hz1:=hst.size
 clear hst hb1
 obtain ⟨i,hi0⟩:=nmz (aheadP lo all)
 have hile:i<=all.length:=by rw [<- hi0];exact aheadP_le lo all
 rw [hi0] at HS
 have hlaw:rangeP lo hi most all=goR hi most 0 (all.drop i):=by unfold rangeP;rw [hi0]
 have HLaw:=Hdz hlaw
 clear hi0 hlaw
 go_wp2_with (fail)
 go_must (refine HS.out.mono ?_)
 rintro e w2 ⟨rfl,hst2,hk2⟩
 have hRg:RgI (λ _=>False) w p b c mst cnt M root all lo hi most i [] (.slice none 0 0) w2:=
  ⟨hst2.turnP (Keeps.refl (λ _=>False) _) (λ k hk=>hk.elim) (λ k hk=>hk.elim) HCB.out (λ k hk=>by rcases hk with hk | hk<;>cases hk),World.ownsRow_nil _ _ _ _,by rw [HLaw.out];rfl,HB1.out.trans (below_frm hk2 hz1),Nat.zero_le _⟩
 have HRg:=Hdz hRg
 have hbo:(if i<all.length then some i else none:Option Nat).isSome=decide (i<all.length):=by
  by_cases hlt:i<all.length
  ·simp [hlt]
  ·simp [hlt]
 rw [hbo]
 clear hst2 hk2 hRg hbo
 go_wp2_with (fail)
 go_loopg [13,14] (all.length+1) (λ gk s13 s14 wr=>∃ (i:Nat) (acc:List Pair),s14=.bool (decide (i<all.length))/\i<=all.length/\all.length-i<=gk/\Hid (RgI (λ _=>False) w p b c mst cnt M root all lo hi most i acc s13 wr))
 case atStart=>exact ⟨i,[],rfl,hile,by omega,HRg.out⟩
 case round =>
  clear hile HRg HS HN HB1 HLaw
  obtain ⟨i,acc,rfl,hile,hgk,hI⟩:=hrel
  have hown:=hI.out.own
  obtain ⟨A,cc,rfl,_⟩:=Sl.of_own hown
  by_cases hlt:i<all.length
  ·rw [decide_eq_true hlt]
   obtain ⟨q,hq⟩:∃ q,all[i]? = some q:=⟨_,List.getElem?_eq_getElem hlt⟩
   have hst:=hI.out.st
   rw [if_pos hlt] at hst
   have hP:=pair_st hT hst
   simp only [pairAt,hq,Option.getD_some] at hP
   have HP:=Hdz hP
   have HST:=Hdz hst
   obtain ⟨na,hna⟩:∃ n,acc.length=n:=⟨_,rfl⟩
   have hnal:=hI.out.len
   rw [hna] at hnal hown
   have HNA:=Hdz hna
   have HQ:=Hdz hq
   have HOwn:=Hdz hown
   clear hst hP hq hna hown
   obtain ⟨qk,qv⟩:=q
   go_wp2_with (fail)
   rw [HNA.out]
   go_must (refine HP.out.mono ?_)
   rintro e w3 ⟨rfl,hb3⟩
   have HB3:=Hdz hb3
   have hb4:Below wr.heap.size wr (w3.alloc (.cells #[strV qk,strV qv] 139)):=hb3.alloc hb3.size _
   have HE:Hid (∀ W,W=w3.alloc (.cells #[strV qk,strV qv] 139)->Calls Tryz.prog 118 #[ptrV b] W λ e w'=>e=.returned (.int .i64 0)/\W=w'):=λ W hW=>by
    subst hW
    exact err_st (HST.out.below hb4)
   have HC:Hid (∀ W,W=w3.alloc (.cells #[strV qk,strV qv] 139)->Calls Tryz.prog 119 #[.slice A na cc] W λ e w'=>e=.returned (clipV (.slice A na cc))/\W=w'):=λ W hW=>by
    subst hW
    exact clip_any _ _ _ _ _ (own_below HOwn.out hb4) (by omega)
   have HEnd:Hid (acc=rangeP lo hi most all->RangePost w.heap.size (rangeP lo hi most all) w (.returned (.tuple #[clipV (.slice A na cc),.int .i64 0])) (w3.alloc (.cells #[strV qk,strV qv] 139))):=λ e=>by
    refine ⟨_,rfl,⟨.slice A na cc,?_,rfl⟩,hI.out.bl.trans (hb4.mono hI.out.bl.size)⟩
    rw [<- e,HNA.out]
    exact own_below HOwn.out hb4
   clear hb3 hb4
   obtain ⟨sb,hsb⟩:=nmz (stopR hi most na (qk,qv))
   cases sb with
   | true =>
    have HD:Hid (acc=rangeP lo hi most all):=hI.out.done λ q' hq'=>by
     have e:=HQ.out
     rw [hq',Option.some.injEq] at e
     subst e
     rw [HNA.out]
     exact hsb
    have hw:((hi==([]:Bytes))=true/\0<most/\most<=(na:Int))\/((hi==([]:Bytes))=false/\lessB qk hi=true/\0<most/\most<=(na:Int))\/((hi==([]:Bytes))=false/\lessB qk hi=false):=by
     unfold stopR at hsb
     by_cases h1:hi=[]<;>cases h2:lessB qk hi<;>simp [h1,h2] at hsb ⊢ <;> first | exact hsb | (rw [h1] at h2;simp [lessB_nil] at h2) | skip
    clear hsb
    rcases hw with ⟨hh1,hm0,hm1⟩ | ⟨hh1,hlb,hm0,hm1⟩ | ⟨hh1,hlb⟩
    all_goals
     go_wp2_with (fail)
     go_must (refine (HE.out _ rfl).mono ?_)
     rintro e w4 ⟨rfl,rfl⟩
     go_wp2_with (fail)
     go_must (refine (HC.out _ rfl).mono ?_)
     rintro e w4 ⟨rfl,rfl⟩
     go_wp2_with (fail)
     refine bodyPost_ret (v:=.tuple #[clipV (.slice A na cc),.int .i64 0]) (by simp [results,Tryz.results75,go_sem]) rfl ?_
     exact HEnd.out HD.out
   | false =>
    have HStop:=Hdz hsb
    have hw:((hi==([]:Bytes))=true/\0<most/\¬ most<=(na:Int))\/((hi==([]:Bytes))=true/\¬ 0<most)\/((hi==([]:Bytes))=false/\lessB qk hi=true/\0<most/\¬ most<=(na:Int))\/((hi==([]:Bytes))=false/\lessB qk hi=true/\¬ 0<most):=by
     unfold stopR at hsb
     by_cases h1:hi=[]<;>cases h2:lessB qk hi<;>by_cases h3:0<most<;>simp [h1,h2,h3] at hsb ⊢ <;> first | omega | skip
    clear hsb
    rcases hw with ⟨hh1,hm0,hm1⟩ | ⟨hh1,hm0⟩ | ⟨hh1,hlb,hm0,hm1⟩ | ⟨hh1,hlb,hm0⟩
    all_goals
     go_wp2_with (at_builtin;go_must (refine wpList_append_at rfl _ _ 77 rfl w.heap.size 139 i0 _ 2 32 Tryz.underlying77 hinf q0 q1 q2 rfl (by decide) _ na (pairsCs acc) rfl (((own_below HOwn.out HB3.out).alloc _).alloc _) ⟨w3.heap.size+1,0,none⟩ 1 1 (pairsCs [(qk,qv)]) rfl rfl (row_pair _ (qk,qv) _ _ (by simp)) (pairsCs_one _) (by unfold maxLen;omega) (by omega) (by have:=HB3.out.size;have:=hI.out.bl.size;simp;omega) ?_))
     intro v5 w5 own5 hg5 hat5
     obtain ⟨n1,n2⟩:=RgI.next hI.out hlt HQ.out (by rw [HNA.out];exact HStop.out) (HB3.out.trans (((Below.refl _ w3).alloc (Nat.le_refl _) (.cells #[strV qk,strV qv] 139)).alloc (by simp) (.cells #[strV qk,strV qv] 139) |>.mono HB3.out.size)) HCB.out (by rw [HNA.out];exact own5) (by rw [HNA.out];exact hg5) (λ k hk=>by rw [HNA.out];simpa using hat5 k hk)
     have HN2:=Hdz n2
     have HNx:=Hdz (next_st n1)
     obtain ⟨A5,c5,rfl,_⟩:=Sl.of_own own5
     clear n1 n2 own5 hg5 hat5
     go_wp2_with (fail)
     go_must (refine HNx.out.mono ?_)
     intro e w6 h6
     obtain ⟨rfl,hR⟩:=RgI.go HN2.out (by rw [HNA.out];exact hnal) h6
     have HR:=Hdz hR
     clear hR h6
     go_wp2_with (fail)
     go_roundg (all.length-(i+1))
     case measure=>omega
     case rel=>exact ⟨i+1,acc++[(qk,qv)],rfl,by omega,Nat.le_refl _,HR.out⟩
  ·rw [decide_eq_false hlt]
   have hst:=hI.out.st
   rw [if_neg hlt] at hst
   have HE:=Hdz (err_st hst)
   have HD:Hid (acc=rangeP lo hi most all):=hI.out.done λ q hq=>absurd (List.getElem?_eq_some_iff.1 hq).1 hlt
   clear hst
   go_wp2_with (fail)
   go_must (refine HE.out.mono ?_)
   rintro e w3 ⟨rfl,rfl⟩
   have HC:=Hdz (clip_any _ _ _ _ wr hown (by have:=hI.out.len;omega))
   go_wp2_with (fail)
   go_must (refine HC.out.mono ?_)
   rintro e w3 ⟨rfl,rfl⟩
   go_wp2_with (fail)
   refine bodyPost_ret (v:=.tuple #[clipV (.slice A acc.length cc),.int .i64 0]) (by simp [results,Tryz.results75,go_sem]) rfl ?_
   refine ⟨_,rfl,⟨_,?_,rfl⟩,hI.out.bl⟩
   rw [<- HD.out]
   exact hI.out.own
end
end Go.Ev
namespace Go.Ev
theorem goR_all (n:Nat):∀ l:List Pair,goR [] 0 n l=l
 | []=>rfl
 | q :: l=>by
  have e:stopR [] 0 n q=false:=by simp [stopR]
  simp only [goR,e,Bool.false_eq_true,if_false]
  rw [goR_free [] (n+1) n,goR_all n l]
theorem rangeP_rest (key:Bytes) (all:List Pair):rangeP key [] 0 all=all.drop (aheadP key all):=goR_all 0 _
theorem aheadP_nil (all:List Pair):aheadP [] all=0:=by
 cases all with
 | nil=>rfl
 | cons q l=>simp [aheadP,lessB_nil]
theorem rangeP_all (all:List Pair):rangeP [] [] 0 all=all:=by rw [rangeP_rest,aheadP_nil,List.drop_zero]
end Go.Ev
