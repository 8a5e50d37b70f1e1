/-
  Texts of this claim.
-/
import Derived.Test.YtmfoiaaehkandaaGreatDoorMOGwCurs4
import Derived.Test.YtmfoiaaehkandaaGreatDoorMOGwUnfix4
set_option linter.unusedVariables false
set_option linter.unusedSimpArgs false
set_option maxHeartbeats 8000000
set_option maxRecDepth 100000
namespace Go.Ev
open Go.Proofs Go.RowKit
theorem at_laws (k:Bytes):∀ {t:List Pair},Rising t->(isAtP k t=true->∃ v,getP k t=some v/\t[aheadP k t]? = some (k,v)/\delP k t=t.take (aheadP k t)++t.drop (aheadP k t+1))/\(isAtP k t=false->getP k t=none/\delP k t=t)
 | [],_=>⟨λ h=>by simp [isAtP] at h,λ _=>⟨rfl,rfl⟩⟩
 | q :: t,hr=>by
  have hr':Rising t:=hr.2
  obtain ⟨h1,h2⟩:=at_laws k hr'
  simp only [isAtP,aheadP]
  by_cases hl:lessB q.1 k=true
  ·have hne:=lessB_ne hl
   simp only [hl,if_true,getP,delP,if_neg hne]
   refine ⟨λ h=>?_,λ h=>?_⟩
   ·obtain ⟨v,e1,e2,e3⟩:=h1 h
    exact ⟨v,e1,by simpa using e2,by rw [e3];simp⟩
   ·obtain ⟨e1,e2⟩:=h2 h
    exact ⟨e1,by rw [e2]⟩
  ·have hl':lessB q.1 k=false:=by simpa using hl
   simp only [hl',Bool.false_eq_true,if_false,getP,delP]
   by_cases he:q.1=k
   ·subst he
    refine ⟨λ _=>⟨q.2,by simp,by simp,by simp⟩,λ h=>by simp at h⟩
   ·have hlt:lessB k q.1=true:=by
     rcases lessB_total q.1 k with h | h | h
     ·exact absurd h hl
     ·exact absurd h he
     ·exact h
    have hno:∀ p∈t,p.1≠k:=λ p hp e=>by
     have:=lessB_trans hlt (hr.1 p hp)
     rw [e,lessB_irrefl] at this
     cases this
    refine ⟨λ h=>absurd (by simpa using h) he,λ _=>?_⟩
    rw [if_neg he,if_neg he]
    exact ⟨getP_none hno,by rw [delP_out hno]⟩
theorem getP_none_out {k:Bytes}:∀ {l:List Pair},getP k l=none->∀ q∈l,q.1≠k
 | [],_,q,hq=>by cases hq
 | p :: l,h,q,hq=>by
  simp only [getP] at h
  split at h
  ·cases h
  ·rcases List.mem_cons.1 hq with rfl | hq
   ·assumption
   ·exact getP_none_out h q hq
def RefGetP (key:Bytes) (t:List Pair) (w:World) (e:Ending) (w':World):Prop:=
 e=.returned (match getP key t with | some v=>.tuple #[strV v,.int .i64 0] | none=>.tuple #[strV [],.int .i64 7])/\Below w.heap.size w w'
theorem refGet_any (B:Nat) (x:Value) (t:List Pair) (key:Bytes) (w:World) (hx:w.ownsRow B 139 2 x t.length (pairsCs t)) (hr:Rising t) (hn:t.length<=10000) (hks:∀ q∈t,q.1.length<=100000) (hk1:1<=key.length) (hk2:key.length<=40) :
  Calls Tryz.prog 72 #[x,strV key] w (RefGetP key t w):=by
 have hG:=good_any key w (by omega)
 have e1:decide (1<=key.length)=true:=by simpa using hk1
 have e2:decide (key.length<=40)=true:=by simpa using hk2
 rw [e1,e2] at hG
 have HG:=Hdz hG
 obtain ⟨A,c,rfl,-⟩:=Sl.of_own hx
 have hsl:=Sl.of_own hx
 have hF:=findP_any A t.length c t key w hsl (by omega) (by omega) hks
 have HF:=Hdz hF
 obtain ⟨ha,hb⟩:=at_laws key hr
 have HL:=Hdz hsl
 clear hG hF e1 e2 hx hr hks
 cases hi:isAtP key t with
 | true =>
  obtain ⟨v,g1,g2,-⟩:=ha hi
  obtain ⟨k,hk⟩:=nmz (aheadP key t)
  unfold FindP at HF
  rw [hi,hk] at HF
  rw [hk] at g2
  have hkl:(k:Int)<(t.length:Int):=by have:=(List.getElem?_eq_some_iff.1 g2).1;omega
  have HE:Hid (∀ W,Below w.heap.size w W->RefGetP key t w (.returned (.tuple #[strV v,.int .i64 0])) W):=λ W hW=>by unfold RefGetP;rw [g1];exact ⟨rfl,hW⟩
  have hk0:(0:Int)<=(k:Int):=by omega
  have HLt:=Hdz g2
  clear ha hb hi g1 g2 hk
  go_enter Tryz.func72,Tryz.ntmps72
  go_wp2_with (fail)
  go_must (refine HG.out.mono ?_)
  rintro e w0 ⟨rfl,rfl⟩
  go_wp2_with (fail)
  go_must (refine HF.out.mono ?_)
  rintro e w1 ⟨rfl,hb1⟩
  obtain ⟨A',c',e0,_,_,hcl⟩:=HL.out.below hb1
  cases e0
  obtain ⟨blk,off,rfl,hbl,hcell⟩:=hcl (by omega)
  obtain ⟨hlt,hq⟩:=List.getElem?_eq_some_iff.1 HLt.out
  obtain ⟨p1,p2⟩:=pairsCs_at t k hlt
  have x2:w1.cell? ⟨blk,off+k*2+1,none⟩=_:=hcell _ _ p2
  rw [hq] at x2
  have HB1:=Hdz hb1
  clear hcell hcl p1 p2 hbl hb1 hq hlt
  go_wp2_with (fail)
  refine bodyPost_ret (v:=.tuple #[strV v,.int .i64 0]) (by simp [results,Tryz.results72,go_sem]) rfl ?_
  exact HE.out _ HB1.out
 | false =>
  obtain ⟨g1,-⟩:=hb hi
  obtain ⟨k,hk⟩:=nmz (aheadP key t)
  unfold FindP at HF
  rw [hi,hk] at HF
  have HE:Hid (∀ W,Below w.heap.size w W->RefGetP key t w (.returned (.tuple #[strV [],.int .i64 7])) W):=λ W hW=>by unfold RefGetP;rw [g1];exact ⟨rfl,hW⟩
  clear ha hb hi g1 hk hsl
  go_enter Tryz.func72,Tryz.ntmps72
  go_wp2_with (fail)
  go_must (refine HG.out.mono ?_)
  rintro e w0 ⟨rfl,rfl⟩
  go_wp2_with (fail)
  go_must (refine HF.out.mono ?_)
  rintro e w1 ⟨rfl,hb1⟩
  go_wp2_with (fail)
  refine bodyPost_ret (v:=.tuple #[strV [],.int .i64 7]) (by simp [results,Tryz.results72,go_sem]) rfl ?_
  exact HE.out _ hb1
def RefDelP (x:Value) (key:Bytes) (t:List Pair) (B:Nat) (w:World) (e:Ending) (w':World):Prop:=
 ∃ u er,e=.returned (.tuple #[u,.int .i64 er])/\w'.ownsRow B 139 2 u (delP key t).length (pairsCs (delP key t))/\Below w.heap.size w w'/\∀ k,u.ownBlock=some k->x.ownBlock=some k\/w.heap.size<=k
theorem refDel_any (B:Nat) (x:Value) (t:List Pair) (key:Bytes) (w:World) (hx:w.ownsRow B 139 2 x t.length (pairsCs t)) (hB:B<=w.heap.size) (hr:Rising t) (hn:t.length<=10000) (hks:∀ q∈t,q.1.length<=100000) (hk1:1<=key.length) (hk2:key.length<=40) :
  Calls Tryz.prog 74 #[x,strV key] w (RefDelP x key t B w):=by
 obtain ⟨i0,hi0,q0,q1,q2⟩:=info_parts infoPair
 have hG:=good_any key w (by omega)
 have e1:decide (1<=key.length)=true:=by simpa using hk1
 have e2:decide (key.length<=40)=true:=by simpa using hk2
 rw [e1,e2] at hG
 have HG:=Hdz hG
 obtain ⟨A,c,rfl,hnc⟩:∃ A c,x=.slice A t.length c/\t.length<=c:=by obtain ⟨A,c,e,h,_⟩:=Sl.of_own hx;exact ⟨A,c,e,h⟩
 have hsl:=Sl.of_own hx
 have HF:=Hdz (findP_any A t.length c t key w hsl (by omega) (by omega) hks)
 obtain ⟨ha,hb⟩:=at_laws key hr
 have HX:=Hdz hx
 clear hG e1 e2 hr hks
 obtain ⟨k,hk⟩:=nmz (aheadP key t)
 unfold FindP at HF
 rw [hk] at HF ha
 cases hi:isAtP key t with
 | false =>
  obtain ⟨g1,g2⟩:=hb hi
  rw [hi] at HF
  have HE:Hid (∀ W,Below w.heap.size w W->RefDelP (.slice A t.length c) key t B w (.returned (.tuple #[.slice A t.length c,.int .i64 7])) W):=λ W hW=>⟨_,_,rfl,by rw [g2];exact own_below HX.out hW,hW,λ k e=>.inl e⟩
  clear ha hb hi g1 g2 hk hsl hx
  go_enter Tryz.func74,Tryz.ntmps74
  go_wp2_with (fail)
  go_must (refine HG.out.mono ?_)
  rintro e w0 ⟨rfl,rfl⟩
  go_wp2_with (fail)
  go_must (refine HF.out.mono ?_)
  rintro e w1 ⟨rfl,hb1⟩
  go_wp2_with (fail)
  refine bodyPost_ret (v:=.tuple #[.slice A t.length c,.int .i64 7]) (by simp [results,Tryz.results74,go_sem]) rfl ?_
  exact HE.out _ hb1
 | true =>
  obtain ⟨v,-,g2,g3⟩:=ha hi
  have hlt:=(List.getElem?_eq_some_iff.1 g2).1
  rw [hi] at HF
  rcases hx.2 with ⟨_,h0⟩ | ⟨g,cap,cur,e,_⟩
  ·omega
  simp only [Value.slice.injEq] at e
  obtain ⟨rfl,_,rfl⟩:=e
  obtain ⟨n,hn'⟩:∃ n,t.length=n:=⟨_,rfl⟩
  have hs1:Sl w 2 (.slice (some ⟨g,0,none⟩) k c) k (pairsCs (t.take k)):=by
   rw [<- pairsCs_take]
   exact Sl.take hsl (by omega)
  have hs3:Sl w 2 (.slice (if c=k+1 then some ⟨g,0,none⟩ else some ⟨g,(k+1)*2,none⟩) (t.length-(k+1)) (c-(k+1))) (t.length-(k+1)) (pairsCs (t.drop (k+1))):=by
   by_cases hc:c=k+1
   ·rw [if_pos hc]
    have:t.length-(k+1)=0:=by omega
    rw [this,List.drop_of_length_le (by omega)]
    exact Sl.nil ..
   ·rw [if_neg hc,<- pairsCs_drop]
    have:=Sl.drop hsl (i:=k+1) (by omega)
    rwa [Nat.zero_add] at this
  have hA3n:(if c=k+1 then some (⟨g,0,none⟩:Addr) else some ⟨g,(k+1)*2,none⟩)=none->c-(k+1)=0:=λ e=>by split at e<;>cases e
  have HE:Hid (∀ u W,W.ownsRow w.heap.size 139 2 u (k+(t.length-(k+1))) (pairsCs (t.take k)++pairsCs (t.drop (k+1)))->Below w.heap.size w W->RefDelP (.slice (some ⟨g,0,none⟩) t.length c) key t B w (.returned (.tuple #[u,.int .i64 0])) W):=λ u W h1 h2=>by
   refine ⟨u,0,rfl,?_,h2,λ k e=>.inr (h1.lt k e).1⟩
   have hl:(delP key t).length=k+(t.length-(k+1)):=by rw [g3,List.length_append,List.length_take,List.length_drop];omega
   rw [hl,g3,pairsCs_app]
   exact own_base h1 hB
  rw [hn'] at HF HE hs3 hlt hn hnc ⊢
  have HS1:=Hdz hs1
  have HS3:=Hdz (Anz hs3 hA3n)
  have hkn:(k:Int)<=(n:Int):=by omega
  have hw1:IntKind.i64.wrap ((k:Int)+1)=(k:Int)+1:=IntWalk.i64_in _ (by omega)
  have hk1n:(k:Int)+1<=(n:Int):=by omega
  have hk00:(0:Int)<=(k:Int):=by omega
  have hk0:(0:Int)<=(k:Int)+1:=by omega
  have htn:((k:Int)+1).toNat=k+1:=by omega
  have hkc:k<=c:=by omega
  have hML:100000<=maxLen:=by unfold maxLen;omega
  clear ha hb hi g2 g3 hk hsl hx hs1 hs3 hA3n hn'
  go_enter Tryz.func74,Tryz.ntmps74
  go_wp2_with (fail)
  go_must (refine HG.out.mono ?_)
  rintro e w0 ⟨rfl,rfl⟩
  go_wp2_with (fail)
  go_must (refine HF.out.mono ?_)
  rintro e w1 ⟨rfl,hb1⟩
  have hb1':=hb1.drew
  have hz1:=hb1'.size
  go_wp2_with (fail)
  refine wRz ?_
  try simp only [lAz]
  refine tA 0 ?_;try simp only [lAz]
  refine tA 1 ?_;try simp only [lAz]
  refine tA 2 ?_;try simp only [lAz]
  refine tA 4 ?_;try simp only [lAz]
  refine tA 5 ?_;try simp only [lAz]
  refine tA 6 ?_;try simp only [lAz]
  refine tA 7 ?_;try simp only [lAz]
  refine rZz 3 λ K hK=>?_;refine if_on rfl ?_
  go_must (refine wp_append_sl _ _ 78 rfl w.heap.size 139 i0 _ 2 32 Tryz.underlying78 hi0 q0 q1 q2 rfl (by decide) (.slice none 0 0) 0 [] rfl (World.ownsRow_nil _ _ _ _) (some ⟨g,0,none⟩) k c (pairsCs (t.take k)) rfl (HS1.out.below hb1') (λ h=>by cases h) (pairsCs_one _) (by omega) (by omega) hz1 ?_)
  intro v1 w2 own1 gr1
  have hb2:Below w.heap.size w w2:=hb1'.grown gr1 hz1 (λ k hk=>by cases hk)
  have hz2:=hb2.size
  obtain ⟨A1,c1,rfl,_⟩:=Sl.of_own own1
  apply hK
  clear hK K
  refine rZz 8 λ K hK=>?_;refine if_on rfl ?_
  go_must (refine wp_append_sl _ _ 78 rfl w.heap.size 139 i0 _ 2 32 Tryz.underlying78 hi0 q0 q1 q2 rfl (by decide) _ _ _ rfl own1 _ _ _ (pairsCs (t.drop (k+1))) rfl (HS3.out.1.below hb2) HS3.out.2 (pairsCs_one _) (by omega) (by omega) hz2 ?_)
  intro v3 w4 own3 gr3
  have hb4:Below w.heap.size w w4:=hb2.grown gr3 hz2 (λ k hk=>(own1.lt k hk).1)
  obtain ⟨A4,c4,rfl,_⟩:=Sl.of_own own3
  apply hK
  clear hK K
  refine rZz 9 λ K hK=>?_;go_simp;apply hK;clear hK K
  refine rZz 10 λ K hK=>?_;go_simp;apply hK;clear hK K
  refine wDz ?_
  go_wp2_with (fail)
  all_goals
   refine bodyPost_ret (v:=.tuple #[.slice A4 _ c4,.int .i64 0]) (by simp [results,Tryz.results74,go_sem];rfl) rfl ?_
   have hkn2:k+(n-(k+1))=n-1:=by omega
   exact HE.out _ _ (by simpa [hkn2] using own3) hb4
theorem aheadP_appT {k:Bytes}:∀ {a b:List Pair},(∀ q∈a,lessB q.1 k=true)->aheadP k (a++b)=a.length+aheadP k b
 | [],b,_=>by simp
 | q :: a,b,h=>by
  simp only [List.cons_append,aheadP,List.length_cons]
  rw [if_pos (h q (List.mem_cons_self ..)),aheadP_appT λ z hz=>h z (List.mem_cons_of_mem _ hz)]
  omega
theorem aheadP_stopT {k:Bytes}:∀ {a b:List Pair},(∀ q∈b,lessB q.1 k=false)->aheadP k (a++b)=aheadP k a
 | [],[],_=>rfl
 | [],q :: b,h=>by simp [aheadP,h q (List.mem_cons_self ..)]
 | q :: a,b,h=>by
  simp only [List.cons_append,aheadP]
  rw [aheadP_stopT h]
theorem ahead_leafT {M:Store} {k:Bytes}:∀ {l:List Item} {ps:List Pair} {ids:List Int},LeafAt M l ps ids->ahead k l=aheadP k ps
 | [],_,_,⟨h,_⟩=>by subst h;rfl
 | x :: l,_,_,⟨v,ps',i1,i2,h1,h2,h3,h4⟩=>by
  subst h1
  simp only [ahead,aheadP]
  rw [ahead_leafT h4]
theorem ahead_zipT {M:Store} {all ps:List Pair} {id:Int} {lo:Bytes} {hi:Option Bytes} {off:Nat} {path:List (List Child × Nat)} {its:List Item} {i2:List Int} {key:Bytes} (hz:Zip M 1 all 0 id lo hi ps off path) (hla:LeafAt M its ps i2) (hin:inR lo hi key):aheadP key all=off+ahead key its:=by
 obtain ⟨a,b,e1,e2,e3,e4⟩:=hz.pos
 rw [e1,aheadP_appT λ q hq=>lessB_of_lt_le (e3 q hq) hin.1,e2,aheadP_stopT,ahead_leafT hla]
 intro q hq
 obtain ⟨u,hu,hl⟩:=e4 q hq
 cases hc:lessB q.1 key
 ·rfl
 ·have:=lessB_trans hc (hin.2 u hu)
  rw [this] at hl
  cases hl
theorem rising_tailT {q:Pair} {l:List Pair} (h:Rising (q :: l)):Rising l/\∀ p∈l,lessB q.1 p.1=true:=by
 have:=Rising.append.1 (show Rising ([q]++l) from h)
 exact ⟨this.2.1,λ p hp=>this.2.2 q (by simp) p hp⟩
theorem rising_splitT {all:List Pair} {i:Nat} {q:Pair} (hr:Rising all) (hq:all[i]? = some q):(∀ p∈all.take i,lessB p.1 q.1=true)/\∀ p∈all.drop (i+1),lessB q.1 p.1=true:=by
 obtain ⟨hlt,he⟩:=List.getElem?_eq_some_iff.1 hq
 have e:all=all.take i++q :: all.drop (i+1):=by
  rw [<- he,<- List.drop_eq_getElem_cons hlt,List.take_append_drop]
 rw [e,Rising.append] at hr
 exact ⟨λ p hp=>hr.2.2 p hp q (List.mem_cons_self ..),(rising_tailT hr.2.1).2⟩
theorem ahead_atT {all:List Pair} {i:Nat} {q:Pair} (hr:Rising all) (hq:all[i]? = some q):aheadP q.1 all=i/\isAtP q.1 all=true:=by
 obtain ⟨hlt,he⟩:=List.getElem?_eq_some_iff.1 hq
 obtain ⟨h1,h2⟩:=rising_splitT hr hq
 have e:all=all.take i++q :: all.drop (i+1):=by
  rw [<- he,<- List.drop_eq_getElem_cons hlt,List.take_append_drop]
 have ha:aheadP q.1 all=i:=by
  rw [e,aheadP_appT h1,List.length_take,Nat.min_eq_left (Nat.le_of_lt hlt)]
  simp [aheadP,lessB_irrefl]
 refine ⟨ha,?_⟩
 rw [isAtP_eq,ha,hq]
 simp
end Go.Ev
namespace Go.Ev
theorem Trail.zip {M:Store} {d:Nat} {all:List Pair} {key:Bytes} {id lid:Int} {P:List (Int × Nat × List Child)} {items:List Item} (ht:Trail M key id P lid items) :
  ∀ {k:Nat} {lo:Bytes} {hi:Option Bytes} {ps:List Pair} {off:Nat} {path:List (List Child × Nat)},Zip M d all k id lo hi ps off path->inR lo hi key →
   ∃ lo' hi' ps' off' path' i2,Zip M d all 0 lid lo' hi' ps' off' path'/\inR lo' hi' key/\LeafAt M items ps' i2/\riseI items=true/\(layI items).length<=240:=by
 induction ht with
 | leaf h1 h2 h3 =>
  intro k lo hi ps off path hz hin
  cases k with
  | zero =>
   obtain ⟨⟨ids,its,i2,q1,q2,q3,q4,_,_⟩,_⟩:=hz.tree
   rw [h1] at q1
   simp only [Option.some.injEq,Pg.mk.injEq,true_and] at q1
   have:=layI_inj h2 q2 h3 q1
   subst this
   exact ⟨lo,hi,ps,off,path,i2,hz,hin,q4,h2,h3⟩
  | succ k =>
   obtain ⟨L,q1,_⟩:=hz.child
   rw [h1] at q1
   simp at q1
 | branch h1 h2 h3 h4 _ ih =>
  intro k lo hi ps off path hz hin
  cases k with
  | zero =>
   obtain ⟨⟨ids,its,i2,q1,_⟩,_⟩:=hz.tree
   rw [h1] at q1
   simp at q1
  | succ k =>
   obtain ⟨L',q1,q2,q3,_,q5⟩:=hz.child
   rw [h1] at q1
   simp only [Option.some.injEq,Pg.mk.injEq,true_and] at q1
   have:=layC_inj h2 q2 h3 q1
   subst this
   obtain ⟨lo',hi',ps',off',hz',_,_,hk⟩:=q5 _ _ h4
   exact ih hz' (hk _ hin rfl)
theorem leaf_find {M:Store} {all ps:List Pair} {lid:Int} {lo:Bytes} {hi:Option Bytes} {off:Nat} {path:List (List Child × Nat)} {items:List Item} {i2:List Int} {key:Bytes} (hz:Zip M 1 all 0 lid lo hi ps off path) (hla:LeafAt M items ps i2) (hin:inR lo hi key) :
  isAtP key all=isAt key items/\∀ (h:ahead key items<items.length),isAt key items=true->∃ v ids,all[aheadP key all]? = some (key,v)/\ValAt M items[ahead key items] v ids:=by
 have ha:=ahead_zipT hz hla hin
 obtain ⟨a,b,e1,e2,e3,e4⟩:=hz.pos
 have hlen:=hla.item.1
 have hat:∀ (h:ahead key items<items.length),∃ v ids,all[aheadP key all]? = some (items[ahead key items].key,v)/\ValAt M items[ahead key items] v ids:=by
  intro h
  obtain ⟨hkey,ids,hval⟩:=hla.item.2 (ahead key items) h (by omega)
  refine ⟨_,ids,?_,hval⟩
  rw [ha,e1,List.getElem?_append_right (by omega),e2,Nat.add_sub_cancel_left,List.getElem?_append_left (by omega),List.getElem?_eq_getElem (by omega),hkey]
 refine ⟨?_,λ h hi=>?_⟩
 ·rw [isAtP_eq]
  by_cases h:ahead key items<items.length
  ·obtain ⟨v,ids,h1,_⟩:=hat h
   rw [h1]
   cases hc:isAt key items with
   | true =>
    obtain ⟨x,hx,hk⟩:=isAt_iff.1 hc
    rw [List.getElem?_eq_getElem h,Option.some.injEq] at hx
    simp [hx,hk]
   | false =>
    have:¬ items[ahead key items].key=key:=λ e=>by
     have:=isAt_iff.2 ⟨_,List.getElem?_eq_getElem h,e⟩
     rw [hc] at this
     cases this
    simpa using this
  ·have hle:=ahead_le key items
   have hc:isAt key items=false:=by
    cases hc:isAt key items with
    | false=>rfl
    | true =>
     obtain ⟨x,hx,_⟩:=isAt_iff.1 hc
     exact absurd (List.getElem?_eq_some_iff.1 hx).1 h
   rw [hc]
   cases hq:all[aheadP key all]? with
   | none=>rfl
   | some q =>
    rw [ha,e1,List.getElem?_append_right (by omega),e2,Nat.add_sub_cancel_left,List.getElem?_append_right (by omega)] at hq
    obtain ⟨u,hu,hl⟩:=e4 q (List.mem_of_getElem? hq)
    have h2:=hin.2 u hu
    simp only [beq_eq_false_iff_ne,ne_eq]
    intro e
    rw [e,h2] at hl
    cases hl
 ·obtain ⟨v,ids,h1,h2⟩:=hat h
  obtain ⟨x,hx,hk⟩:=isAt_iff.1 hi
  rw [List.getElem?_eq_getElem h,Option.some.injEq] at hx
  rw [hx,hk] at h1
  exact ⟨v,ids,h1,h2⟩
open Go.Proofs Go.RowKit
theorem infoBucket:(Tryz.prog.info? 181).map (λ i=>(i.zero,i.size,i.bytes))=some (some (.agg #[strV [],.slice none 0 0]),2,40):=by kernel_rfl
def NoB (w:World) (A:Option Addr) (n:Nat) (key:Bytes):Prop:=
 (n=0/\A=none)\/∃ g nm,A=some ⟨g,0,none⟩/\0<n/\n<=1000/\w.cell? ⟨g,0,none⟩=some (strV nm)/\g<w.heap.size/\lessB nm key=false/\(nm==key)=false/\nm.length<=100
theorem findB_no (A:Option Addr) (n c:Nat) (key:Bytes) (w:World) (h:NoB w A n key) (hk:key.length<=100) :
  Calls Tryz.prog 105 #[.slice A n c,strV key] w λ e w'=>e=.returned (.tuple #[.int .i64 0,.bool false])/\Below w.heap.size w w':=by
 rcases h with ⟨rfl,rfl⟩ | ⟨g,nm,rfl,h1,h2,h3,h4,h5,h6,h7⟩
 ·go_enter Tryz.func105,Tryz.ntmps105
  go_wp2_with (fail)
  go_loopg [6] 0 (λ gk s6 wr=>s6=.int .i64 0/\wr=w)
  case atStart=>exact ⟨rfl,rfl⟩
  case round =>
   obtain ⟨rfl,rfl⟩:=hrel
   go_wp2_with (fail)
   refine wRz ?_
   try simp only [lAz]
   refine tA 0 ?_;try simp only [lAz]
   refine tA 1 ?_;try simp only [lAz]
   refine tA 2 ?_;try simp only [lAz]
   refine tA 3 ?_;try simp only [lAz]
   refine tA 4 ?_;try simp only [lAz]
   refine tA 5 ?_;try simp only [lAz]
   refine sA 6 ?_;try simp only [lAz]
   refine sA 7 ?_;try simp only [lAz]
   refine sA 8 ?_;try simp only [lAz]
   refine sA 9 ?_;try simp only [lAz]
   refine sA 10 ?_;try simp only [lAz]
   refine sA 11 ?_;try simp only [lAz]
   refine sA 12 ?_;try simp only [lAz]
   refine tA 13 ?_;try simp only [lAz]
   refine tA 14 ?_;try simp only [lAz]
   refine tA 15 ?_;try simp only [lAz]
   refine wDz ?_
   go_wp2_with (fail)
   refine bodyPost_ret (v:=.tuple #[.int .i64 0,.bool false]) (by simp [results,Tryz.results105,go_sem]) rfl ?_
   exact ⟨rfl,(Below.refl _ _).drew⟩
 ·have HL:=Hdz (less_any nm key w (by omega) (by omega))
  rw [h5] at HL
  have hn0:(0:Int)<(n:Int):=by omega
  clear h5
  go_enter Tryz.func105,Tryz.ntmps105
  go_wp2_with (fail)
  go_loopg [6] 0 (λ gk s6 wr=>s6=.int .i64 0/\wr=w)
  case atStart=>exact ⟨rfl,rfl⟩
  case round =>
   obtain ⟨rfl,rfl⟩:=hrel
   go_wp2_with (fail)
   go_must (refine HL.out.mono ?_)
   rintro e w1 ⟨rfl,hb1⟩
   have x1:w1.drew.cell? ⟨g,0,none⟩=some (strV nm):=(hb1.drew.cell (p:=⟨g,0,none⟩) h4).trans h3
   have HB1:=Hdz hb1.drew
   clear hb1
   go_wp2_with (fail)
   refine wRz ?_
   try simp only [lAz]
   refine tA 0 ?_;try simp only [lAz]
   refine tA 1 ?_;try simp only [lAz]
   refine tA 2 ?_;try simp only [lAz]
   refine tA 3 ?_;try simp only [lAz]
   refine tA 4 ?_;try simp only [lAz]
   refine tA 5 ?_;try simp only [lAz]
   refine tA 6 ?_;try simp only [lAz]
   refine tA 7 ?_;try simp only [lAz]
   refine tA 8 ?_;try simp only [lAz]
   refine tA 9 ?_;try simp only [lAz]
   refine rA 10 (v:=?_) (hy:=?hy) ?_;case hy=>(intro w hE;have q0:=hE.cell x1;go_simp;try with_reducible rfl)
   try simp only [lAz]
   refine tA 11 ?_;try simp only [lAz]
   refine tA 12 ?_;try simp only [lAz]
   refine tA 13 ?_;try simp only [lAz]
   refine tA 14 ?_;try simp only [lAz]
   refine tA 15 ?_;try simp only [lAz]
   refine wDz ?_
   go_wp2_with (fail)
   refine bodyPost_ret (v:=.tuple #[.int .i64 0,.bool false]) (by simp [results,Tryz.results105,go_sem]) rfl ?_
   exact ⟨rfl,HB1.out⟩
theorem lookB_no (A:Option Addr) (n c:Nat) (key:Bytes) (w:World) (h:NoB w A n key) (hk1:1<=key.length) (hk:key.length<=40) :
  Calls Tryz.prog 104 #[.slice A n c,strV key] w λ e w'=>e=.returned (.tuple #[.int .i64 0,.int .i64 7])/\Below w.heap.size w w':=by
 have hG:=good_any key w (by omega)
 have e1:decide (1<=key.length)=true:=by simpa using hk1
 have e2:decide (key.length<=40)=true:=by simpa using hk
 rw [e1,e2] at hG
 have HG:=Hdz hG
 have HF:=Hdz (findB_no A n c key w h (by omega))
 clear hG h e1 e2 hk1 hk
 go_enter Tryz.func104,Tryz.ntmps104
 go_wp2_with (fail)
 go_must (refine HG.out.mono ?_)
 rintro e w1 ⟨rfl,rfl⟩
 go_wp2_with (fail)
 go_must (refine HF.out.mono ?_)
 rintro e w2 ⟨rfl,hb2⟩
 go_wp2_with (fail)
 refine bodyPost_ret (v:=.tuple #[.int .i64 0,.int .i64 7]) (by simp [results,Tryz.results104,go_sem]) rfl ?_
 exact ⟨rfl,hb2⟩
theorem sl_bucket (w:World) (nm:Bytes) (T:TypeId):Sl (w.alloc (.cells #[strV nm,.slice none 0 0] T)) 2 (.slice (some ⟨w.heap.size,0,none⟩) 1 1) 1 [strV nm,.slice none 0 0]:=by
 refine ⟨_,_,rfl,Nat.le_refl _,rfl,λ _=>⟨w.heap.size,0,rfl,by simp,λ j u hu=>?_⟩⟩
 have hb:=Blk.new w T #[strV nm,.slice none 0 0]
 match j with
 | 0=>cases hu;exact hb.cell 0
 | 1=>cases hu;exact hb.cell 1
 | j+2=>simp at hu
def MakeRP (B:Nat) (nm:Bytes) (n:Nat) (cs:List Value) (w:World) (e:Ending) (w':World):Prop:=
 ∃ u,e=.returned (.tuple #[u,.int .i64 0])/\w'.ownsRow B 181 2 u (n+1) ([strV nm,.slice none 0 0]++cs)/\Below B w w'
theorem makeR_nil (key:Bytes) (w:World) (hk1:1<=key.length) (hk:key.length<=40) :
  Calls Tryz.prog 64 #[.slice none 0 0,strV key] w (MakeRP w.heap.size key 0 [] w):=by
 obtain ⟨i0,hi,q0,q1,q2⟩:=info_parts infoBucket
 have HL:Hid (∀ w1,Below w.heap.size w w1->Calls Tryz.prog 104 #[.slice none 0 0,strV key] w1 λ e w'=>e=.returned (.tuple #[.int .i64 0,.int .i64 7])/\Below w1.heap.size w1 w'):=λ w1 _=>lookB_no none 0 0 key w1 (.inl ⟨rfl,rfl⟩) hk1 hk
 have HF:Hid (∀ w1,Below w.heap.size w w1->Calls Tryz.prog 105 #[.slice none 0 0,strV key] w1 λ e w'=>e=.returned (.tuple #[.int .i64 0,.bool false])/\Below w1.heap.size w1 w'):=λ w1 _=>findB_no none 0 0 key w1 (.inl ⟨rfl,rfl⟩) (by omega)
 clear hk1 hk
 go_enter Tryz.func64,Tryz.ntmps64
 go_wp2_with (fail)
 go_must (refine (HL.out _ (Below.refl _ _)).mono ?_)
 rintro e w1 ⟨rfl,hb1⟩
 have HB1:=Hdz hb1
 clear hb1
 go_wp2_with (fail)
 go_must (refine (HF.out _ HB1.out).mono ?_)
 rintro e w2 ⟨rfl,hb2⟩
 have HB2:=Hdz (HB1.out.trans (hb2.mono HB1.out.size)).drew
 have hz2:w.heap.size<=w2.drew.heap.size:=HB2.out.size
 clear hb2
 go_wp2_with (fail)
 refine wRz ?_
 try simp only [lAz]
 refine tA 0 ?_;try simp only [lAz]
 refine tA 1 ?_;try simp only [lAz]
 refine tA 2 ?_;try simp only [lAz]
 refine tA 4 ?_;try simp only [lAz]
 refine tA 5 ?_;try simp only [lAz]
 refine tA 8 ?_;try simp only [lAz]
 refine tA 9 ?_;try simp only [lAz]
 refine tA 10 ?_;try simp only [lAz]
 refine wpAny_ready (rs:=[3,6]) (by kernel_rfl) (by simp) (aCz (λ K hK=>?_) (aCz (λ K hK=>?_) AllReady.nil))
 ·skip
  refine if_on rfl ?_
  go_must (refine wp_append_sl _ _ 68 rfl w.heap.size 181 i0 _ 2 40 Tryz.underlying68 hi q0 q1 q2 rfl (by decide) (.slice none 0 0) 0 [] rfl (World.ownsRow_nil _ _ _ _) none 0 0 [] rfl (Sl.nil ..) (λ _=>rfl) (by simp) (by unfold maxLen;omega) (by omega) hz2 ?_)
  intro v1 w3 own1 gr1
  have hb3:Below w.heap.size w w3:=HB2.out.grown gr1 hz2 (λ k hk=>by cases hk)
  have hz3:=hb3.size
  obtain ⟨A1,c1,rfl,-⟩:=Sl.of_own own1
  apply hK
  clear hK K
  refine rZz 6 λ K hK=>?_;go_simp;apply hK;clear hK K
  have own1:=own1.alloc (.cells #[strV key,.slice none 0 0] 181)
  have HB4:=Hdz (hb3.alloc hz3 (.cells #[strV key,.slice none 0 0] 181))
  have HS4:=Hdz (sl_bucket w3 key 181)
  refine rZz 7 λ K hK=>?_;refine if_on rfl ?_
  go_must (refine wp_append_sl _ _ 68 rfl w.heap.size 181 i0 _ 2 40 Tryz.underlying68 hi q0 q1 q2 rfl (by decide) _ 0 [] rfl own1 (some _) 1 1 [strV key,.slice none 0 0] rfl HS4.out (λ h=>by cases h) (by simp [Value.oneCell']) (by unfold maxLen;omega) (by omega) HB4.out.size ?_)
  intro v2 w5 own2 gr2
  have hb5:Below w.heap.size w w5:=HB4.out.grown gr2 HB4.out.size (λ k hk=>(own1.lt k hk).1)
  have hz5:=hb5.size
  obtain ⟨A2,c2,rfl,-⟩:=Sl.of_own own2
  apply hK
  clear hK K
  refine rZz 11 λ K hK=>?_;refine if_on rfl ?_
  go_must (refine wp_append_sl _ _ 68 rfl w.heap.size 181 i0 _ 2 40 Tryz.underlying68 hi q0 q1 q2 rfl (by decide) _ 1 _ rfl own2 none 0 0 [] rfl (Sl.nil ..) (λ _=>rfl) (by simp) (by unfold maxLen;omega) (by omega) hz5 ?_)
  intro v3 w6 own3 gr3
  have hb6:Below w.heap.size w w6:=hb5.grown gr3 hz5 (λ k hk=>(own2.lt k hk).1)
  obtain ⟨A3,c3,rfl,-⟩:=Sl.of_own own3
  apply hK
  clear hK K
  refine rZz 12 λ K hK=>?_;go_simp;apply hK;clear hK K
  refine rZz 13 λ K hK=>?_;go_simp;apply hK;clear hK K
  refine wDz ?_
  go_wp2_with (fail)
  refine bodyPost_ret (v:=.tuple #[.slice A3 1 c3,.int .i64 0]) (by simp [results,Tryz.results64,go_sem]) rfl ?_
  exact ⟨_,rfl,by simpa using own3,hb6⟩
 ·skip
  go_simp
  apply hK
  clear hK K
  have HB3:=Hdz (HB2.out.alloc hz2 (.cells #[strV key,.slice none 0 0] 181))
  have HS3:=Hdz (sl_bucket w2.drew key 181)
  refine rZz 3 λ K hK=>?_;refine if_on rfl ?_
  go_must (refine wp_append_sl _ _ 68 rfl w.heap.size 181 i0 _ 2 40 Tryz.underlying68 hi q0 q1 q2 rfl (by decide) (.slice none 0 0) 0 [] rfl (World.ownsRow_nil _ _ _ _) none 0 0 [] rfl (Sl.nil ..) (λ _=>rfl) (by simp) (by unfold maxLen;omega) (by omega) HB3.out.size ?_)
  intro v1 w3 own1 gr1
  have hb3:Below w.heap.size w w3:=HB3.out.grown gr1 HB3.out.size (λ k hk=>by cases hk)
  have hz3:=hb3.size
  have HS4:=Hdz (HS3.out.below ((Below.refl _ _).grown gr1 (Nat.le_refl _) (λ k hk=>by cases hk)))
  have HB4:=Hdz hb3
  obtain ⟨A1,c1,rfl,-⟩:=Sl.of_own own1
  apply hK
  clear hK K
  refine rZz 7 λ K hK=>?_;refine if_on rfl ?_
  go_must (refine wp_append_sl _ _ 68 rfl w.heap.size 181 i0 _ 2 40 Tryz.underlying68 hi q0 q1 q2 rfl (by decide) _ 0 [] rfl own1 (some _) 1 1 [strV key,.slice none 0 0] rfl HS4.out (λ h=>by cases h) (by simp [Value.oneCell']) (by unfold maxLen;omega) (by omega) HB4.out.size ?_)
  intro v2 w5 own2 gr2
  have hb5:Below w.heap.size w w5:=HB4.out.grown gr2 HB4.out.size (λ k hk=>(own1.lt k hk).1)
  have hz5:=hb5.size
  obtain ⟨A2,c2,rfl,-⟩:=Sl.of_own own2
  apply hK
  clear hK K
  refine rZz 11 λ K hK=>?_;refine if_on rfl ?_
  go_must (refine wp_append_sl _ _ 68 rfl w.heap.size 181 i0 _ 2 40 Tryz.underlying68 hi q0 q1 q2 rfl (by decide) _ 1 _ rfl own2 none 0 0 [] rfl (Sl.nil ..) (λ _=>rfl) (by simp) (by unfold maxLen;omega) (by omega) hz5 ?_)
  intro v3 w6 own3 gr3
  have hb6:Below w.heap.size w w6:=hb5.grown gr3 hz5 (λ k hk=>(own2.lt k hk).1)
  obtain ⟨A3,c3,rfl,-⟩:=Sl.of_own own3
  apply hK
  clear hK K
  refine rZz 12 λ K hK=>?_;go_simp;apply hK;clear hK K
  refine rZz 13 λ K hK=>?_;go_simp;apply hK;clear hK K
  refine wDz ?_
  go_wp2_with (fail)
  refine bodyPost_ret (v:=.tuple #[.slice A3 1 c3,.int .i64 0]) (by simp [results,Tryz.results64,go_sem]) rfl ?_
  exact ⟨_,rfl,by simpa using own3,hb6⟩
def Ahead1 (w:World) (g:Nat) (key:Bytes):Prop:=
 ∃ nm,w.cell? ⟨g,0,none⟩=some (strV nm)/\g<w.heap.size/\lessB nm key=true/\nm.length<=100
theorem Ahead1.below {w w':World} {g:Nat} {key:Bytes} (h:Ahead1 w g key) (hb:Below w.heap.size w w'):Ahead1 w' g key:=by
 obtain ⟨nm,h1,h2,h3⟩:=h
 exact ⟨nm,(hb.cell (p:=⟨g,0,none⟩) h2).trans h1,Nat.lt_of_lt_of_le h2 hb.size,h3⟩
theorem findB_end (g c:Nat) (key:Bytes) (w:World) (h:Ahead1 w g key) (hk:key.length<=100) :
  Calls Tryz.prog 105 #[.slice (some ⟨g,0,none⟩) 1 c,strV key] w λ e w'=>e=.returned (.tuple #[.int .i64 1,.bool false])/\Below w.heap.size w w':=by
 obtain ⟨nm,h3,h4,h5,h7⟩:=h
 have HL:=Hdz (less_any nm key w (by omega) (by omega))
 rw [h5] at HL
 clear h5
 go_enter Tryz.func105,Tryz.ntmps105
 go_wp2_with (fail)
 go_loopg [6] 1 (λ gk s6 wr=>(gk=1/\s6=.int .i64 0/\wr=w)\/(gk=0/\s6=.int .i64 1/\Below w.heap.size w wr))
 case atStart=>exact .inl ⟨rfl,rfl,rfl⟩
 case round =>
  rcases hrel with ⟨rfl,rfl,rfl⟩ | ⟨rfl,rfl,hbw⟩
  ·go_wp2_with (fail)
   go_must (refine HL.out.mono ?_)
   rintro e w1 ⟨rfl,hb1⟩
   have HB1:=Hdz hb1
   clear hb1
   go_wp2_with (fail)
   go_roundg 0
   case measure=>omega
   case rel=>exact .inr ⟨rfl,rfl,HB1.out⟩
  ·have HB:=Hdz hbw
   clear hbw HL h3
   go_wp2_with (fail)
   refine wRz ?_
   try simp only [lAz]
   refine tA 0 ?_;try simp only [lAz]
   refine tA 1 ?_;try simp only [lAz]
   refine tA 2 ?_;try simp only [lAz]
   refine tA 3 ?_;try simp only [lAz]
   refine tA 4 ?_;try simp only [lAz]
   refine tA 5 ?_;try simp only [lAz]
   refine sA 6 ?_;try simp only [lAz]
   refine sA 7 ?_;try simp only [lAz]
   refine sA 8 ?_;try simp only [lAz]
   refine sA 9 ?_;try simp only [lAz]
   refine sA 10 ?_;try simp only [lAz]
   refine sA 11 ?_;try simp only [lAz]
   refine sA 12 ?_;try simp only [lAz]
   refine tA 13 ?_;try simp only [lAz]
   refine rZz 14 λ K hK=>?_;go_simp;apply hK;clear hK K
   refine rZz 15 λ K hK=>?_;go_simp;apply hK;clear hK K
   refine wDz ?_
   go_wp2_with (fail)
   refine bodyPost_ret (v:=.tuple #[.int .i64 1,.bool false]) (by simp [results,Tryz.results105,go_sem]) rfl ?_
   exact ⟨rfl,HB.out.drew⟩
theorem lookB_end (g c:Nat) (key:Bytes) (w:World) (h:Ahead1 w g key) (hk1:1<=key.length) (hk:key.length<=40) :
  Calls Tryz.prog 104 #[.slice (some ⟨g,0,none⟩) 1 c,strV key] w λ e w'=>e=.returned (.tuple #[.int .i64 0,.int .i64 7])/\Below w.heap.size w w':=by
 have hG:=good_any key w (by omega)
 have e1:decide (1<=key.length)=true:=by simpa using hk1
 have e2:decide (key.length<=40)=true:=by simpa using hk
 rw [e1,e2] at hG
 have HG:=Hdz hG
 have HF:=Hdz (findB_end g c key w h (by omega))
 clear hG h e1 e2 hk1 hk
 go_enter Tryz.func104,Tryz.ntmps104
 go_wp2_with (fail)
 go_must (refine HG.out.mono ?_)
 rintro e w1 ⟨rfl,rfl⟩
 go_wp2_with (fail)
 go_must (refine HF.out.mono ?_)
 rintro e w2 ⟨rfl,hb2⟩
 go_wp2_with (fail)
 refine bodyPost_ret (v:=.tuple #[.int .i64 0,.int .i64 7]) (by simp [results,Tryz.results104,go_sem]) rfl ?_
 exact ⟨rfl,hb2⟩
def MakeEP (B:Nat) (nm key:Bytes) (w:World) (e:Ending) (w':World):Prop:=
 ∃ u,e=.returned (.tuple #[u,.int .i64 0])/\w'.ownsRow B 181 2 u 2 [strV nm,.slice none 0 0,strV key,.slice none 0 0]/\Below B w w'
theorem makeR_end (B:Nat) (nm key:Bytes) (x:Value) (w:World) (hx:w.ownsRow B 181 2 x 1 [strV nm,.slice none 0 0]) (hless:lessB nm key=true) (hnm:nm.length<=100) (hk1:1<=key.length) (hk:key.length<=40) :
  Calls Tryz.prog 64 #[x,strV key] w (MakeEP w.heap.size nm key w):=by
 obtain ⟨i0,hi,q0,q1,q2⟩:=info_parts infoBucket
 have hx0:=hx
 obtain ⟨_,⟨rfl,h0⟩ | ⟨g,cap,cur,rfl,-,-,hnc,-⟩⟩:=hx0
 ·simp at h0
 have hsl:=Sl.of_own hx
 have hcell:=hsl
 obtain ⟨_,_,e0,_,_,hcl⟩:=hcell
 cases e0
 obtain ⟨g',o',e1,hg,hc⟩:=hcl (by omega)
 cases e1
 have hN:Ahead1 w g key:=⟨nm,by simpa using hc 0 _ rfl,hg,hless,hnm⟩
 have HL:Hid (∀ w1,Below w.heap.size w w1->Calls Tryz.prog 104 #[.slice (some ⟨g,0,none⟩) 1 cap,strV key] w1 λ e w'=>e=.returned (.tuple #[.int .i64 0,.int .i64 7])/\Below w1.heap.size w1 w'):=λ w1 hb=>lookB_end g cap key w1 (hN.below hb) hk1 hk
 have HF:Hid (∀ w1,Below w.heap.size w w1->Calls Tryz.prog 105 #[.slice (some ⟨g,0,none⟩) 1 cap,strV key] w1 λ e w'=>e=.returned (.tuple #[.int .i64 1,.bool false])/\Below w1.heap.size w1 w'):=λ w1 hb=>findB_end g cap key w1 (hN.below hb) (by omega)
 obtain ⟨A0,hA0⟩:=nmz ((if cap=1 then some (⟨g,0,none⟩:Addr) else some ⟨g,2,none⟩))
 have hA0n:A0=none->cap-1=0:=by rintro rfl;split at hA0<;>cases hA0
 have HA0:=Hdz hA0n
 have HSl:=Hdz hsl
 have hcap:1<=cap:=hnc
 have hcapi:(1:Int)<=(cap:Int):=by omega
 clear hA0n hN hless hnm hsl hcl hg hc hnc hx
 clear hk1 hk
 go_enter Tryz.func64,Tryz.ntmps64
 go_wp2_with (fail)
 go_must (refine (HL.out _ (Below.refl _ _)).mono ?_)
 rintro e w1 ⟨rfl,hb1⟩
 have HB1:=Hdz hb1
 clear hb1
 go_wp2_with (fail)
 go_must (refine (HF.out _ HB1.out).mono ?_)
 rintro e w2 ⟨rfl,hb2⟩
 have HB2:=Hdz (HB1.out.trans (hb2.mono HB1.out.size)).drew
 have hz2:w.heap.size<=w2.drew.heap.size:=HB2.out.size
 clear hb2
 go_wp2_with (fail)
 refine wRz ?_
 try simp only [lAz]
 refine tA 0 ?_;try simp only [lAz]
 refine tA 1 ?_;try simp only [lAz]
 refine tA 2 ?_;try simp only [lAz]
 refine tA 4 ?_;try simp only [lAz]
 refine tA 5 ?_;try simp only [lAz]
 refine tA 8 ?_;try simp only [lAz]
 refine tA 9 ?_;try simp only [lAz]
 refine tA 10 ?_;try simp only [lAz]
 refine wpAny_ready (rs:=[3,6]) (by kernel_rfl) (by simp) (aCz (λ K hK=>?_) (aCz (λ K hK=>?_) AllReady.nil))
 ·skip
  refine if_on rfl ?_
  go_must (refine wp_append_sl _ _ 68 rfl w.heap.size 181 i0 _ 2 40 Tryz.underlying68 hi q0 q1 q2 rfl (by decide) (.slice none 0 0) 0 [] rfl (World.ownsRow_nil _ _ _ _) (some ⟨g,0,none⟩) 1 cap [strV nm,.slice none 0 0] rfl (HSl.out.below HB2.out) (λ h=>by cases h) (by simp [Value.oneCell']) (by unfold maxLen;omega) (by omega) hz2 ?_)
  intro v1 w3 own1 gr1
  have hb3:Below w.heap.size w w3:=HB2.out.grown gr1 hz2 (λ k hk=>by cases hk)
  have hz3:=hb3.size
  obtain ⟨A1,c1,rfl,-⟩:=Sl.of_own own1
  apply hK
  clear hK K
  refine rZz 6 λ K hK=>?_;go_simp;apply hK;clear hK K
  have own1:=own1.alloc (.cells #[strV key,.slice none 0 0] 181)
  have HB4:=Hdz (hb3.alloc hz3 (.cells #[strV key,.slice none 0 0] 181))
  have HS4:=Hdz (sl_bucket w3 key 181)
  refine rZz 7 λ K hK=>?_;refine if_on rfl ?_
  go_must (refine wp_append_sl _ _ 68 rfl w.heap.size 181 i0 _ 2 40 Tryz.underlying68 hi q0 q1 q2 rfl (by decide) _ 1 [strV nm,.slice none 0 0] rfl own1 (some _) 1 1 [strV key,.slice none 0 0] rfl HS4.out (λ h=>by cases h) (by simp [Value.oneCell']) (by unfold maxLen;omega) (by omega) HB4.out.size ?_)
  intro v2 w5 own2 gr2
  have hb5:Below w.heap.size w w5:=HB4.out.grown gr2 HB4.out.size (λ k hk=>(own1.lt k hk).1)
  have hz5:=hb5.size
  obtain ⟨A2,c2,rfl,-⟩:=Sl.of_own own2
  apply hK
  clear hK K
  refine rZz 11 λ K hK=>?_;refine if_on rfl ?_
  go_must (refine wp_append_sl _ _ 68 rfl w.heap.size 181 i0 _ 2 40 Tryz.underlying68 hi q0 q1 q2 rfl (by decide) _ 2 _ rfl own2 A0 0 (cap-1) [] rfl (Sl.nil ..) HA0.out (by simp) (by unfold maxLen;omega) (by omega) hz5 ?_)
  intro v3 w6 own3 gr3
  have hb6:Below w.heap.size w w6:=hb5.grown gr3 hz5 (λ k hk=>(own2.lt k hk).1)
  obtain ⟨A3,c3,rfl,-⟩:=Sl.of_own own3
  apply hK
  clear hK K
  refine rZz 12 λ K hK=>?_;go_simp;apply hK;clear hK K
  refine rZz 13 λ K hK=>?_;go_simp;apply hK;clear hK K
  refine wDz ?_
  go_wp2_with (fail)
  refine bodyPost_ret (v:=.tuple #[.slice A3 2 c3,.int .i64 0]) (by simp [results,Tryz.results64,go_sem]) rfl ?_
  exact ⟨_,rfl,by simpa using own3,hb6⟩
 ·skip
  go_simp
  apply hK
  clear hK K
  have HB3:=Hdz (HB2.out.alloc hz2 (.cells #[strV key,.slice none 0 0] 181))
  have HS3:=Hdz (sl_bucket w2.drew key 181)
  refine rZz 3 λ K hK=>?_;refine if_on rfl ?_
  go_must (refine wp_append_sl _ _ 68 rfl w.heap.size 181 i0 _ 2 40 Tryz.underlying68 hi q0 q1 q2 rfl (by decide) (.slice none 0 0) 0 [] rfl (World.ownsRow_nil _ _ _ _) (some ⟨g,0,none⟩) 1 cap [strV nm,.slice none 0 0] rfl (HSl.out.below HB3.out) (λ h=>by cases h) (by simp [Value.oneCell']) (by unfold maxLen;omega) (by omega) HB3.out.size ?_)
  intro v1 w3 own1 gr1
  have hb3:Below w.heap.size w w3:=HB3.out.grown gr1 HB3.out.size (λ k hk=>by cases hk)
  have hz3:=hb3.size
  have HS4:=Hdz (HS3.out.below ((Below.refl _ _).grown gr1 (Nat.le_refl _) (λ k hk=>by cases hk)))
  have HB4:=Hdz hb3
  obtain ⟨A1,c1,rfl,-⟩:=Sl.of_own own1
  apply hK
  clear hK K
  refine rZz 7 λ K hK=>?_;refine if_on rfl ?_
  go_must (refine wp_append_sl _ _ 68 rfl w.heap.size 181 i0 _ 2 40 Tryz.underlying68 hi q0 q1 q2 rfl (by decide) _ 1 [strV nm,.slice none 0 0] rfl own1 (some _) 1 1 [strV key,.slice none 0 0] rfl HS4.out (λ h=>by cases h) (by simp [Value.oneCell']) (by unfold maxLen;omega) (by omega) HB4.out.size ?_)
  intro v2 w5 own2 gr2
  have hb5:Below w.heap.size w w5:=HB4.out.grown gr2 HB4.out.size (λ k hk=>(own1.lt k hk).1)
  have hz5:=hb5.size
  obtain ⟨A2,c2,rfl,-⟩:=Sl.of_own own2
  apply hK
  clear hK K
  refine rZz 11 λ K hK=>?_;refine if_on rfl ?_
  go_must (refine wp_append_sl _ _ 68 rfl w.heap.size 181 i0 _ 2 40 Tryz.underlying68 hi q0 q1 q2 rfl (by decide) _ 2 _ rfl own2 A0 0 (cap-1) [] rfl (Sl.nil ..) HA0.out (by simp) (by unfold maxLen;omega) (by omega) hz5 ?_)
  intro v3 w6 own3 gr3
  have hb6:Below w.heap.size w w6:=hb5.grown gr3 hz5 (λ k hk=>(own2.lt k hk).1)
  obtain ⟨A3,c3,rfl,-⟩:=Sl.of_own own3
  apply hK
  clear hK K
  refine rZz 12 λ K hK=>?_;go_simp;apply hK;clear hK K
  refine rZz 13 λ K hK=>?_;go_simp;apply hK;clear hK K
  refine wDz ?_
  go_wp2_with (fail)
  refine bodyPost_ret (v:=.tuple #[.slice A3 2 c3,.int .i64 0]) (by simp [results,Tryz.results64,go_sem]) rfl ?_
  exact ⟨_,rfl,by simpa using own3,hb6⟩
theorem bytes_beq (a b:Bytes):((⟨a.toArray⟩:ByteArray)==⟨b.toArray⟩)=decide (a=b):=by
 show (a.toArray==b.toArray)=decide (a=b)
 rw [Bool.eq_iff_iff]
 simp
theorem samePairs_any (A B:Option Addr) (n m c d:Nat) (a b:List Pair) (w:World) (ha:Sl w 2 (.slice A n c) n (pairsCs a)) (hb:Sl w 2 (.slice B m d) m (pairsCs b)) (hn:n<=1000000) (hm:m<=1000000) :
  Calls Tryz.prog 27 #[.slice A n c,.slice B m d] w λ e w'=>e=.returned (.bool (decide (a=b)))/\Below w.heap.size w w':=by
 have hla:n=a.length:=by obtain ⟨_,_,_,_,h1,_⟩:=ha;rw [pairsCs_len] at h1;omega
 have hlb:m=b.length:=by obtain ⟨_,_,_,_,h1,_⟩:=hb;rw [pairsCs_len] at h1;omega
 subst hla hlb
 by_cases hl:a.length=b.length
 ·have hl':((a.length:Int) != (b.length:Int))=false:=by simp [hl]
  have HL:=Hdz hl
  go_enter Tryz.func27,Tryz.ntmps27
  clear hl
  go_wp2_with (fail)
  go_loopg [5] a.length (λ gk s5 wr=>∃ i:Nat,s5=.int .i64 (i:Int)/\i+gk=a.length/\Hid (a.take i=b.take i)/\Below w.heap.size w wr)
  case atStart=>exact ⟨0,rfl,by omega,rfl,Below.refl _ _⟩
  case round =>
   obtain ⟨i,rfl,hi,hsame,hbw⟩:=hrel
   by_cases h1:i<a.length
   ·have h1':(i:Int)<(a.length:Int):=by omega
    have h2:i<b.length:=by have:=HL.out;omega
    have h2':(i:Int)<(b.length:Int):=by omega
    have hi0:(0:Int)<=(i:Int):=by omega
    have hw1:IntKind.i64.wrap ((i:Int)+1)=(i:Int)+1:=IntWalk.i64_in _ (by omega)
    obtain ⟨_,_,e0,_,_,hcl⟩:=ha.below hbw
    cases e0
    obtain ⟨ba,oa,rfl,_,hca⟩:=hcl (by omega)
    obtain ⟨_,_,e0,_,_,hcl2⟩:=hb.below hbw
    cases e0
    obtain ⟨bb,ob,rfl,_,hcb⟩:=hcl2 (by omega)
    obtain ⟨p1,p2⟩:=pairsCs_at a i h1
    obtain ⟨p3,p4⟩:=pairsCs_at b i h2
    have x1:wr.cell? ⟨ba,oa+i*2,none⟩=_:=hca _ _ p1
    have x2:wr.cell? ⟨ba,oa+i*2+1,none⟩=_:=hca _ _ p2
    have x3:wr.cell? ⟨bb,ob+i*2,none⟩=_:=hcb _ _ p3
    have x4:wr.cell? ⟨bb,ob+i*2+1,none⟩=_:=hcb _ _ p4
    have HSt:Hid (a[i]=b[i]->a.take (i+1)=b.take (i+1)):=λ e=>by
     rw [List.take_succ_eq_append_getElem h1,List.take_succ_eq_append_getElem h2,hsame.out,e]
    have HNe:Hid (a[i]≠b[i]->decide (a=b)=false):=λ e=>by
     refine decide_eq_false λ e2=>e ?_
     subst e2;rfl
    clear p1 p2 p3 p4 hca hcb hcl hcl2 ha hb
    generalize a[i]=qa at *
    generalize b[i]=qb at *
    obtain ⟨k1,v1⟩:=qa
    obtain ⟨k2,v2⟩:=qb
    have hk:=bytes_beq k1 k2
    have hv:=bytes_beq v1 v2
    by_cases he:k1=k2/\v1=v2
    ·obtain ⟨rfl,rfl⟩:=he
     clear hk hv
     go_wp2_with (fail)
     refine wRz ?_
     try simp only [lAz]
     refine tA 0 ?_;try simp only [lAz]
     refine tA 1 ?_;try simp only [lAz]
     refine tA 2 ?_;try simp only [lAz]
     refine tA 4 ?_;try simp only [lAz]
     refine tA 5 ?_;try simp only [lAz]
     refine tA 6 ?_;try simp only [lAz]
     refine rA 3 (v:=?_) (hy:=?hy) ?_;case hy=>(intro w hE;have q0:=hE.cell x1;have q1:=hE.cell x2;go_simp;try with_reducible rfl)
     try simp only [lAz]
     refine rA 7 (v:=?_) (hy:=?hy) ?_;case hy=>(intro w hE;have q0:=hE.cell x3;have q1:=hE.cell x4;go_simp;try with_reducible rfl)
     try simp only [lAz]
     refine rZz 8 λ K hK=>?_;go_simp;apply hK;clear hK K
     refine rZz 9 λ K hK=>?_;go_simp;apply hK;clear hK K
     refine wDz ?_
     go_wp2_with (fail)
     go_roundg (gk-1)
     case measure=>omega
     case rel=>exact ⟨i+1,by simp,by omega,HSt.out (by first | rfl | trivial),hbw.drew⟩
    ·have HF:Hid (decide (a=b)=false):=HNe.out λ e=>he (by simpa using e)
     by_cases hkk:k1=k2
     ·have hvv:¬ v1=v2:=λ e=>he ⟨hkk,e⟩
      subst hkk
      rw [decide_eq_false hvv] at hv
      clear hk he
      go_wp2_with (fail)
      refine wRz ?_
      try simp only [lAz]
      refine tA 0 ?_;try simp only [lAz]
      refine tA 1 ?_;try simp only [lAz]
      refine tA 2 ?_;try simp only [lAz]
      refine tA 4 ?_;try simp only [lAz]
      refine tA 5 ?_;try simp only [lAz]
      refine tA 6 ?_;try simp only [lAz]
      refine rA 3 (v:=?_) (hy:=?hy) ?_;case hy=>(intro w hE;have q0:=hE.cell x1;have q1:=hE.cell x2;go_simp;try with_reducible rfl)
      try simp only [lAz]
      refine rA 7 (v:=?_) (hy:=?hy) ?_;case hy=>(intro w hE;have q0:=hE.cell x3;have q1:=hE.cell x4;go_simp;try with_reducible rfl)
      try simp only [lAz]
      refine rZz 8 λ K hK=>?_;go_simp;apply hK;clear hK K
      refine rZz 9 λ K hK=>?_;go_simp;apply hK;clear hK K
      refine wDz ?_
      go_wp2_with (fail)
      go_ret
      exact ⟨by rw [HF.out]<;>rfl,hbw.drew⟩
     ·rw [decide_eq_false hkk] at hk
      clear he
      go_wp2_with (fail)
      refine wRz ?_
      try simp only [lAz]
      refine tA 0 ?_;try simp only [lAz]
      refine tA 1 ?_;try simp only [lAz]
      refine tA 2 ?_;try simp only [lAz]
      refine tA 4 ?_;try simp only [lAz]
      refine tA 5 ?_;try simp only [lAz]
      refine tA 6 ?_;try simp only [lAz]
      refine rA 3 (v:=?_) (hy:=?hy) ?_;case hy=>(intro w hE;have q0:=hE.cell x1;have q1:=hE.cell x2;go_simp;try with_reducible rfl)
      try simp only [lAz]
      refine rA 7 (v:=?_) (hy:=?hy) ?_;case hy=>(intro w hE;have q0:=hE.cell x3;have q1:=hE.cell x4;go_simp;try with_reducible rfl)
      try simp only [lAz]
      refine rZz 8 λ K hK=>?_;go_simp;apply hK;clear hK K
      refine rZz 9 λ K hK=>?_;go_simp;apply hK;clear hK K
      refine wDz ?_
      go_wp2_with (fail)
      go_ret
      exact ⟨by rw [HF.out]<;>rfl,hbw.drew⟩
   ·have h1':¬ (i:Int)<(a.length:Int):=by omega
    have HE:Hid (decide (a=b)=true):=by
     have hii:i=a.length:=by omega
     have h3:=hsame.out
     have h4:=HL.out
     rw [hii,List.take_length,h4,List.take_length] at h3
     exact decide_eq_true h3
    clear ha hb hsame
    go_wp2_with (fail)
    go_ret
    exact ⟨by rw [HE.out]<;>rfl,hbw⟩
 ·have hl':((a.length:Int) != (b.length:Int))=true:=by
   simp only [bne_iff_ne,ne_eq]
   omega
  have HE:Hid (decide (a=b)=false):=decide_eq_false λ e=>hl (by rw [e])
  clear hl ha hb
  go_enter Tryz.func27,Tryz.ntmps27
  go_wp2_with (fail)
  go_ret
  exact ⟨by rw [HE.out]<;>rfl,Below.refl _ _⟩
end Go.Ev
