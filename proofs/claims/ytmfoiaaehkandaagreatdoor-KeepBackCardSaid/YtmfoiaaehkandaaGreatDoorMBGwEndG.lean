/-
  Texts of this claim.
-/
import Derived.Test.YtmfoiaaehkandaaGreatDoorMBGwPutT0
import Derived.Test.YtmfoiaaehkandaaGreatDoorMBGwUpG
set_option linter.unusedVariables false
set_option linter.unusedSimpArgs false
set_option maxHeartbeats 4000000
set_option maxRecDepth 100000
namespace Go.Ev
open Go.Proofs Go.RowKit
def PutGP (p:Nat) (c:Pc) (most:Nat) (M:Store) (cnt:Nat) (ids:List Int) (ps':List Pair) (n':Nat) (w:World) (e:Ending) (w':World):Prop:=
 ∃ root M' c' cnt' ids',e=.returned (.tuple #[.int .i64 root,.int .i64 0])/\TreeH M' root ps' ids' n'/\PgOk w' p c' most M' cnt'/\(cnt'+ids.length=cnt+ids'.length/\cnt'<=cnt+48)/\(∀ i,i ∉ ids->M i≠none->M' i=M i)/\(∀ i∈ids',i∈ids\/M i=none)/\PgK p c c' w w'
theorem UpsE.full {M M1:Store} {kids kids1:List Child} {G G':List (Int × Nat × List Child)} {k:Nat} {new:List Int} (h:UpsE M kids G k M1 kids1 new) (e:G=G') (hk:G'.length<=k):UpsG M kids G' M1 kids1 new:=by
 subst e
 have:=h.ups
 rwa [List.take_of_length_le hk] at this
theorem EndG.len {M M':Store} {kids:List Child} {G:List (Int × Nat × List Child)} {root:Int} {new drp:List Int} (h:EndG M kids G root M' new drp):new.length<=2*G.length+3:=by
 have hf:∀ {M3:Store} {ks:List Child} {M4:Store} {n3:List Int},FinG M3 ks root M4 n3->n3.length<=2:=by
  rintro M3 ks M4 n3 (⟨_,_,_,_,_,rfl⟩ | ⟨_,_,_,_,rfl⟩ | ⟨_,_,_,(⟨_,_,_,_,_,_,_,rfl⟩ | ⟨_,_,_,_,_,_,_,_,_,_,_,_,_,_,_,_,rfl⟩)⟩)<;>simp
 have hl:∀ {M3:Store} {L:List Child} {ks:List Child} {M4:Store} {n2:List Int},LaidG M3 L ks M4 n2->n2.length<=2:=by
  rintro M3 L ks M4 n2 (⟨_,_,_,rfl⟩ | ⟨_,(⟨_,_,_,_,_,_,_,rfl⟩ | ⟨_,_,_,_,_,_,_,_,_,_,_,_,_,_,_,_,rfl⟩)⟩)<;>simp
 rcases h with ⟨rfl,_,h⟩ | ⟨pre,s,M2,kids1,new1,c,rfl,h1,_,(⟨x,_,_,_,rfl⟩ | ⟨M3,kids2,new2,new3,_,h2,h3,rfl,_⟩)⟩
 ·have:=hf h;omega
 ·have:=h1.len
  simp only [List.length_append,List.length_cons,List.length_nil]
  omega
 ·have:=h1.len
  have:=hl h2
  have:=hf h3
  simp only [List.length_append,List.length_cons,List.length_nil]
  omega
theorem Seg.getSub {T:Int->Bytes->Option Bytes->List Pair->List Int->Prop}:∀ {L:List Child} {hi:Option Bytes} {ps:List Pair} {ids:List Int},Seg T L hi ps ids->∀ {i:Nat} {y:Child},L[i]? = some y->∃ h p q,T y.page y.key h p q/\q.Sublist ids
 | [],_,_,_,_,i,y,hy=>by simp at hy
 | c :: L,hi,ps,ids,⟨p1,p2,i1,i2,h1,h2,h3,h4⟩,0,y,hy=>by
  simp only [List.getElem?_cons_zero,Option.some.injEq] at hy
  subst hy h2
  exact ⟨_,_,_,h3,List.sublist_append_left _ _⟩
 | c :: L,hi,ps,ids,⟨p1,p2,i1,i2,h1,h2,h3,h4⟩,i+1,y,hy=>by
  simp only [List.getElem?_cons_succ] at hy
  obtain ⟨h,p,q,g1,g2⟩:=Seg.getSub h4 hy
  subst h2
  exact ⟨h,p,q,g1,g2.trans (List.sublist_append_right _ _)⟩
theorem Trail.sub {M:Store} {key:Bytes} {id lid:Int} {P:List (Int × Nat × List Child)} {items:List Item} (h:Trail M key id P lid items):∀ {d k:Nat} {lo:Bytes} {hi:Option Bytes} {ps:List Pair} {ids:List Int},TreeAt M d k id lo hi ps ids->(P.map (λ z:Int × Nat × List Child=>z.1)).Sublist ids:=by
 induction h with
 | leaf=>intros;simp
 | branch h1 h2 h3 h4 _ ih =>
  intro d k lo hi ps ids ht
  cases k with
  | zero=>obtain ⟨items,i2,g1,_⟩:=ht;rw [h1] at g1;simp at g1
  | succ k =>
   obtain ⟨c,L,i2,g1,g2,g3,g4,g5,g6,g7⟩:=ht
   rw [h1] at g1
   simp only [Option.some.injEq,Pg.mk.injEq,true_and] at g1
   have:=layC_inj h2 g2 h3 g1
   subst this
   obtain ⟨y,hy,hpg⟩:=headKey_page [] _ _ _ h4
   obtain ⟨h',p',q',⟨ht,_⟩,hs⟩:=Seg.getSub g6 hy
   rw [hpg] at ht
   subst g7
   simp only [List.map_cons]
   exact ((ih ht).trans hs).cons_cons _
theorem Trail.once {M:Store} {key:Bytes} {id lid:Int} {P:List (Int × Nat × List Child)} {items:List Item} {d k:Nat} {lo:Bytes} {hi:Option Bytes} {ps:List Pair} {ids:List Int} (h:Trail M key id P lid items) (ht:TreeAt M d k id lo hi ps ids) (hn:ids.Nodup):(P.map (λ z:Int × Nat × List Child=>z.1)).Nodup:=(h.sub ht).nodup hn
section
variable {p most cnt:Nat} {c:Pc} {x:Wc} {M:Store} {made dropped:List Int} {w:World}
theorem nodup_len:∀ {a b:List Int},a.Nodup->(∀ x∈a,x∈b)->a.length<=b.length
 | [],b,_,_=>Nat.zero_le _
 | x :: a,b,hn,hs=>by
  obtain ⟨h1,h2⟩:=List.nodup_cons.1 hn
  have hx:=hs x (List.mem_cons_self ..)
  have h3:=nodup_len (b:=b.erase x) h2 λ y hy=>(List.mem_erase_of_ne (λ e=>h1 (by rw [<- e];exact hy))).2 (hs y (List.mem_cons_of_mem _ hy))
  rw [List.length_erase_of_mem hx] at h3
  have:=List.length_pos_of_mem hx
  simp only [List.length_cons]
  omega
theorem WkOk.few (h:WkOk w p x most M cnt made dropped) {D:List Int} (hn:D.Nodup) (hs:∀ i∈D,(M i).isSome=true):D.length<=cnt:=by
 obtain ⟨n,md,was,mc,wc,dc,spare,hA,hI,hP,rfl⟩:=h.pg
 have hsub:∀ i∈D,i∈keysE md:=λ i hi=>(hP.key i).2 (hs i hi)
 have h1:D.length<=(keysE md).length:=nodup_len hn hsub
 simpa [keysE] using h1
theorem end_behind {root':Int} {M':Store} {ps':List Pair} {ids ids' N D mm:List Int} {n':Nat} {x4:Wc} {w7:World} (hw4:WkOk w7 p x4 most M' (cnt+N.length) mm D) (hth:∀ i∈ids,M i≠none) (hnd:ids.Nodup) (hgrow:Grow M M' N)
  (hT':∃ k S,TopAt M' k root' ps' ids'/\Hist M' k root' S n') (hsh:Short ps') (hperm:(ids'++D).Perm (ids++N)) (hDl:D.length<=100000) (hNl:N.length<=48) (hkeepW:Keeps (c.S p) w w7) (hsubW:∀ j,x4.S p j->c.S p j\/w.heap.size<=j) (hmbs:x4.c.mb=c.mb/\x4.c.db=c.db/\x4.c.wb=c.wb) :
  Calls Tryz.prog 146 #[ptrV x4.b,.int .i64 0] w7 λ e w8=>e=.returned (.int .i64 0)/\PutGP p c most M cnt ids ps' n' w (.returned (.tuple #[.int .i64 root',.int .i64 0])) w8:=by
 have hall:(ids++N).Nodup:=List.nodup_append.2 ⟨hnd,hgrow.nodup,λ a ha b hb e=>hth a ha (e ▸ hgrow.fresh b hb)⟩
 have hall2:=hperm.nodup_iff.2 hall
 obtain ⟨hn1,hn2,hn3⟩:=List.nodup_append.1 hall2
 have hsome:∀ i∈D,(M' i).isSome=true:=by
  intro i hi
  have hm:i∈ids++N:=hperm.mem_iff.1 (List.mem_append_right _ hi)
  have:M' i≠none:=by
   by_cases hin:i∈N
   ·exact hgrow.there i hin
   ·rw [hgrow.same i hin]
    exact hth i ((List.mem_append.1 hm).resolve_right hin)
  cases hq:M' i with
  | none=>exact absurd hq this
  | some y=>rfl
 have hplen:=hperm.length_eq
 simp only [List.length_append] at hplen
 have hDc:=WkOk.few hw4 hn2 hsome
 have hdi:∀ i∈ids',dropAll M' D i=M' i:=λ i hi=>by rw [dropAll_at,if_neg λ hm=>hn3 i hi i hm rfl]
 refine (end_ok hw4 hn2 hsome hDl).mono ?_
 rintro e w8 ⟨rfl,c'',hpg8,hk8⟩
 obtain ⟨m1,m2,m3⟩:=hmbs
 have hTs:TreeH M' root' ps' ids' n':=⟨hT',hn1,hsh⟩
 refine ⟨rfl,root',_,c'',_,ids',rfl,hTs.same λ i hi=>hdi i hi,hpg8,⟨by omega,by omega⟩,λ i hi hm=>?_,λ i hi=>?_,⟨hkeepW.trans hk8.keeps λ i hi e=>?_,λ j e=>?_,hk8.mb.trans m1,hk8.db.trans m2,hk8.wb.trans m3⟩⟩
 ·have hnew:i ∉ N:=λ e=>hm (hgrow.fresh i e)
  have hiD:i ∉ D:=λ e=>by
   have:=hperm.mem_iff.1 (List.mem_append_right _ e)
   rcases List.mem_append.1 this with e | e
   ·exact hi e
   ·exact hnew e
  rw [dropAll_at,if_neg hiD,hgrow.same i hnew]
 ·have:=hperm.mem_iff.1 (List.mem_append_left _ hi)
  rcases List.mem_append.1 this with e | e
  ·exact .inl e
  ·exact .inr (hgrow.fresh i e)
 ·rcases hsubW i (.inl e) with e | e
  ·exact e
  ·omega
 ·rcases hk8.sub j e with e | e
  ·exact hsubW j (.inl e)
  ·have:=hkeepW.size;exact .inr (by omega)
/-- tree.up, and tree.end behind it. -/
theorem upend_ok {k nN:Nat} {psN:List Pair} {ids N1 DD mm:List Int} {P:List (Int × Nat × List Child)} {kids:List Child} {M1:Store} {wW w6:World} {x3:Wc} {st:List Step} {Ap B:Option Addr} {cp ck:Nat}
  (h:PgOk w p c most M cnt) (hnd:ids.Nodup) (hth:∀ i∈ids,M i≠none) (hsh:Short psN) (hk8:k<=17) (hFit:FitsG k M1 kids P.reverse) (hkf:KidsG kids)
  (hfin:∀ root M' new drp,EndG M1 kids P.reverse root M' new drp->Grow M M' (N1++new)/\∃ k' ids' S',TopAt M' k' root psN ids'/\Hist M' k' root S' nN/\(ids'++drp++DD++P.reverse.map (λ z:Int × Nat × List Child=>z.1)).Perm (ids++N1++new))
  (hgh:st.map Step.ghost=P) (hPl:P.length=k) (hPn:(P.map (λ z:Int × Nat × List Child=>z.1)).Nodup) (hat:∀ s∈P,s.2.1<s.2.2.length)
  (hst:w6.ownsRow 0 289 3 (.slice Ap st.length cp) st.length (stepsCs st)) (hstb:∀ j,(Value.slice Ap st.length cp).ownBlock=some j->w.heap.size<=j/\j<wW.heap.size) (hstk:StepsOk w6 0 st) (hsb:∀ s∈st,∀ j,s.v.ownBlock=some j->w.heap.size<=j/\j<wW.heap.size)
  (hbw:Below w.heap.size w wW) (htrk:Trk c p wW.heap.size wW w6 x3) (hw3:WkOk w6 p x3 most M1 (cnt+N1.length) mm DD) (ownk:OwnsC w6 0 (.slice B kids.length ck) kids) (hkb:∀ j,(Value.slice B kids.length ck).ownBlock=some j->wW.heap.size<=j) (nsk:∀ j,(Value.slice B kids.length ck).ownBlock=some j->¬ x3.S p j) (hAk:B=none->ck=0)
  (hN1:N1.length<=11) (hroom:cnt+2*k+16<=most) (hmm:mm.length<=900) (hDD:DD.length<=100) (hil0:ids.length<=90000) :
  Calls Tryz.prog 149 #[ptrV x3.b,.slice Ap st.length cp,.slice B kids.length ck] w6 λ e w7=>∃ root',e=.returned (.tuple #[.int .i64 root',.int .i64 0]) ∧
   Calls Tryz.prog 146 #[ptrV x3.b,.int .i64 0] w7 λ e w8=>e=.returned (.int .i64 0)/\PutGP p c most M cnt ids psN nN w (.returned (.tuple #[.int .i64 root',.int .i64 0])) w8:=by
 obtain ⟨hfit,hend,hshr⟩:=hFit
 have hz0:=h.lt
 have hkeep:∀ j,w.heap.size<=j->j<wW.heap.size->¬ (c.S p j\/wW.heap.size<=j):=λ j h1 h2 e=>by
  rcases e with e | e
  ·have:=hz0 j e;omega
  ·omega
 have hstl:st.length=k:=by rw [<- hPl,<- hgh,List.length_map]
 have hx3n:∀ j,w.heap.size<=j->j<wW.heap.size->¬ x3.S p j:=λ j h1 h2 e=>hkeep j h1 h2 (htrk.sub j e)
 have hG:(st.map Step.ghost).reverse=P.reverse:=by rw [hgh]
 have hstl':P.reverse.length<=st.length:=by rw [<- hgh];simp
 have hidn:(st.map (λ s:Step=>s.id)).Nodup:=by
  have e:st.map (λ s:Step=>s.id)=P.map (λ z:Int × Nat × List Child=>z.1):=by rw [<- hgh,List.map_map];rfl
  rw [e]
  exact hPn
 have hshr':∀ pre s M2 kids1 new c y,(st.map Step.ghost).reverse=pre++[s]->UpsG M1 kids pre M2 kids1 new->s.2.2[s.2.1]? = some c->allC s.2.2 s.2.1 c kids1=[y]->∃ root drp,Shrink M2 y.page root drp/\drp.length<=28:=by
  intro pre s M2 kids1 new c y e1 e2 e3 e4
  rw [hG] at e1
  obtain ⟨r,d,g1,g2⟩:=hshr pre s M2 kids1 new c y e1 e2 e3 e4
  exact ⟨r,d,g1,by omega⟩
 refine (upG_ok Ap B cp ck st kids w6 hw3 hst ownk (by omega) hstk nsk (λ j hj=>hx3n j (hstb j hj).1 (hstb j hj).2)
  (λ s hs j hj=>⟨hx3n j (hsb s hs j hj).1 (hsb s hs j hj).2,λ e=>by have h5:=(hsb s hs j hj).2;have h6:=hkb j e;omega⟩)
  (λ s hs=>hat s.ghost (by rw [<- hgh];exact List.mem_map_of_mem hs)) (by rw [hG];exact hfit) (λ M2 kids1 new hu=>hend M2 kids1 new (hu.full hG hstl')) hkf hAk hidn hshr' (by omega) (by omega) (by omega)).mono ?_
 rintro e w7 ⟨root',M',new,drp,x4,rfl,hUE,hw4,hkk,hfr⟩
 refine ⟨root',rfl,?_⟩
 rw [hG] at hUE hw4
 obtain ⟨hgrow,k',ids',S',hT',hH',hperm⟩:=hfin root' M' new drp hUE
 obtain ⟨D,hD⟩:∃ D,D=DD++P.reverse.map (·.1)++drp:=⟨_,rfl⟩
 replace hperm:(ids'++D).Perm (ids++(N1++new)):=by
  rw [hD]
  rw [List.perm_iff_count] at hperm ⊢
  intro a
  have:=hperm a
  simp only [List.count_append] at this ⊢
  omega
 rw [<- hD] at hw4
 have hDl:D.length<=100000:=by
  have hplen:=hperm.length_eq
  simp only [List.length_append] at hplen
  have hg4:=hUE.len
  rw [List.length_reverse,hPl] at hg4
  omega
 have hkeepW:Keeps (c.S p) w w7:=by
  refine ((Keeps.of_below (S:=c.S p) hbw).trans htrk.keeps λ i hi e=>?_).trans hfr λ i hi e=>?_
  ·rcases e with e | e
   ·exact e
   ·have:=hbw.size;omega
  ·rcases e with e | e
   ·rcases htrk.sub i e with e | e
    ·exact e
    ·have:=hbw.size;omega
   ·have:=hkb i e
    have:=hbw.size
    omega
 have hsubW:∀ j,x4.S p j->c.S p j\/w.heap.size<=j:=λ j e=>by
  have h5:=hbw.size
  have h6:=htrk.size
  rcases hkk.sub j e with e | e
  ·rcases htrk.sub j e with e | e
   ·exact .inl e
   ·exact .inr (by omega)
  ·exact .inr (by omega)
 have hmbs:x4.c.mb=c.mb/\x4.c.db=c.db/\x4.c.wb=c.wb:=⟨hkk.mb.trans htrk.mb,hkk.db.trans htrk.db,hkk.wb.trans htrk.wb⟩
 have hw4':WkOk w7 p x4 most M' (cnt+(N1++new).length) (mm++new) D:=by
  rw [List.length_append,<- Nat.add_assoc]
  exact hw4
 have hNl:(N1++new).length<=48:=by
  have hg4:=hUE.len
  rw [List.length_reverse,hPl] at hg4
  rw [List.length_append]
  omega
 have hEnd:=end_behind (cnt:=cnt) hw4' hth hnd hgrow ⟨k',S',hT',hH'⟩ hsh hperm hDl hNl hkeepW hsubW hmbs
 rw [hkk.same] at hEnd
 exact hEnd
end
end Go.Ev
