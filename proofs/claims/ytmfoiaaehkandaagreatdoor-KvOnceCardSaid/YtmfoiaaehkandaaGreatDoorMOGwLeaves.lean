/-
  Texts of this claim.
-/
import Derived.Test.YtmfoiaaehkandaaGreatDoorMOGwLoad
set_option linter.unusedVariables false
set_option linter.unusedSimpArgs false
set_option maxHeartbeats 2000000
set_option maxRecDepth 100000
namespace Go.Ev
open Go.Proofs Go.RowKit
structure Step where
 id:Int
 at':Nat
 v:Value
 L:List Child
def stepCs (s:Step):List Value:=[.int .i64 s.id,.int .i64 s.at',s.v]
def stepsCs:List Step->List Value
 | []=>[]
 | s :: l=>stepCs s++stepsCs l
theorem stepsCs_snoc (s:Step):∀ l:List Step,stepsCs (l++[s])=stepsCs l++stepCs s
 | []=>by simp [stepsCs]
 | x :: l=>by simp [stepsCs,stepsCs_snoc s l]
def Step.ghost (s:Step):Int × Nat × List Child:=(s.id,s.at',s.L)
inductive Way (M:Store) (key:Bytes):Nat->Int->List (Int × Nat × List Child)->Int->List Item->Prop
 | leaf {k:Nat} {id:Int} {items:List Item}:M id=some ⟨2,0,layI items⟩->riseI items=true->(layI items).length<=240->(items≠[]\/k=0)->k<30->Way M key k id [] id items
 | branch {k:Nat} {id lid:Int} {L:List Child} {items:List Item} {x:Child} {P:List (Int × Nat × List Child)}:M id=some ⟨3,0,layC L⟩->rightC L=true->(layC L).length<=240->(2<=L.length\/0<k)->k<30->L[findC key L]? = some x →
   Way M key (k+1) x.page P lid items->Way M key k id ((id,findC key L,L) :: P) lid items
theorem Way.head {M:Store} {key:Bytes} {k:Nat} {id lid:Int} {P:List (Int × Nat × List Child)} {items:List Item} (h:Way M key k id P lid items) :
  (M id=some ⟨2,0,layI items⟩/\riseI items=true/\(layI items).length<=240/\(items≠[]\/k=0)/\k<30/\P=[]/\id=lid) ∨
  ∃ L x Q,M id=some ⟨3,0,layC L⟩/\rightC L=true/\(layC L).length<=240/\(2<=L.length\/0<k)/\k<30/\L[findC key L]? = some x/\P=(id,findC key L,L) :: Q/\Way M key (k+1) x.page Q lid items:=by
 cases h with
 | leaf h1 h2 h3 h4 h5=>exact .inl ⟨h1,h2,h3,h4,h5,rfl,rfl⟩
 | branch h1 h2 h3 h4 h5 h6 h7=>exact .inr ⟨_,_,_,h1,h2,h3,h4,h5,h6,rfl,h7⟩
theorem infoStep:(Tryz.prog.info? 289).map (λ i=>(i.zero,i.size,i.bytes))=some (some (.agg #[.int .i64 0,.int .i64 0,.slice none 0 0]),3,40):=by kernel_rfl
theorem own_apart {w:World} {b1 b2 z1 z2 n1 n2:Nat} {e1 e2:TypeId} {v1 v2:Value} {x1 x2:List Value} (h1:w.ownsRow b1 e1 z1 v1 n1 x1) (h2:w.ownsRow b2 e2 z2 v2 n2 x2) (he:e1≠e2):∀ k,v1.ownBlock=some k->v2.ownBlock≠some k:=by
 intro k h3 h4
 rcases h1.2 with ⟨rfl,_⟩ | ⟨g,cap,cur,rfl,_,hg,_⟩
 ·cases h3
 ·rcases h2.2 with ⟨rfl,_⟩ | ⟨g2,cap2,cur2,rfl,_,hg2,_⟩
  ·cases h4
  ·simp only [Value.ownBlock,Option.some.injEq] at h3 h4
   subst h3 h4
   rw [hg] at hg2
   simp at hg2
   exact he hg2.2
theorem layC_len:∀ L:List Child,L.length*2<=(layC L).length:=by
 intro L
 induction L with
 | nil=>simp [layC]
 | cons x l ih =>
  have h1:=Go.Lib.uvarint_pos (Go.Lib.zigzag x.page)
  have h2:=Go.Lib.uvarint_pos (Go.Lib.zigzag (x.key.length:Int))
  simp only [layC,Child.lay,textB,varB,List.length_append,List.length_cons]
  omega
def StepsOk (w:World) (base:Nat) (l:List Step):Prop:=∀ s∈l,OwnsC w base s.v s.L/\rightC s.L=true
theorem StepsOk.below {w w':World} {base:Nat} {l:List Step} (h:StepsOk w base l) (hb:Below w.heap.size w w'):StepsOk w' base l:=λ s hs=>⟨own_below (h s hs).1 hb,(h s hs).2⟩
def WayP (P:List (Int × Nat × List Child)) (lid:Int) (items:List Item) (w:World) (e:Ending) (w':World):Prop:=
 ∃ pv st vi,e=.returned (.tuple #[pv,.int .i64 lid,vi,.int .i64 0])/\w'.ownsRow w.heap.size 289 3 pv st.length (stepsCs st)/\st.map Step.ghost=P/\StepsOk w' w.heap.size st/\OwnsI w' w.heap.size vi items/\Below w.heap.size w w'
section
variable {p:Nat} {c:Pc} {most cnt:Nat} {M:Store}
theorem way_ok (id:Int) (key:Bytes) (P:List (Int × Nat × List Child)) (lid:Int) (items:List Item) (w:World) (h:PgOk w p c most M cnt) (hw:Way M key 0 id P lid items) :
  Calls Tryz.prog 133 #[ptrV p,.int .i64 id,strV key] w (WayP P lid items w):=by
 obtain ⟨i0,hi,hz0,hz1,hz2⟩:=info_parts infoStep
 go_enter Tryz.func133,Tryz.ntmps133
 go_wp2
 go_loopg [10,11] P.length (λ gk s10 s11 wr=>∃ (done:List Step) (rest:List (Int × Nat × List Child)) (cur:Int),s11=.int .i64 cur/\rest.length<=gk/\Hid (done.map Step.ghost++rest=P)/\Hid (Way M key done.length cur rest lid items)/\wr.ownsRow w.heap.size 289 3 s10 done.length (stepsCs done)/\Hid (StepsOk wr w.heap.size done)/\Below w.heap.size w wr)
 case atStart=>exact ⟨[],P,id,rfl,Nat.le_refl _,rfl,hw,World.ownsRow_nil _ _ _ _,λ s hs=>absurd hs (by simp),Below.refl _ _⟩
 case round =>
  obtain ⟨done,rest,cur,rfl,hg,hP,hway,hown,hst,hb⟩:=hrel
  have hpg:=h.below hb
  have hz:=hb.size
  obtain ⟨A,cc,rfl,_⟩:=Sl.of_own hown
  rcases hway.out.head with ⟨hm,hr,hs,hne,hk,hR,hcur⟩ | ⟨L,x,Q,hm,hr,hs,hne,hk,hat,hR,hQ⟩
  ·subst hcur
   subst hR
   have HX:=Hdz (load_leaf cur done.length items wr hpg hm hr hs hk hne)
   clear hm hr hway hne h hpg
   go_wp2_with (fail)
   go_must (refine HX.out.mono ?_)
   rintro e w1 ⟨v,rfl,hIt,hb1⟩
   unfold OwnsI at hIt
   obtain ⟨B,d,rfl,_⟩:=Sl.of_own hIt
   have bx:Blk (w1.alloc (.cells #[.bool true,.slice B items.length d,.slice none 0 0] 285)) w1.heap.size 285 #[.bool true,.slice B items.length d,.slice none 0 0]:=Blk.new _ _ _
   have x0:(w1.alloc (.cells #[.bool true,.slice B items.length d,.slice none 0 0] 285)).cell? ⟨w1.heap.size,0,none⟩=some (.bool true):=bx.cell 0
   have x1:(w1.alloc (.cells #[.bool true,.slice B items.length d,.slice none 0 0] 285)).cell? ⟨w1.heap.size,1,none⟩=some (.slice B items.length d):=bx.cell 1
   have hs1:=hb1.size
   have HO:=Hdz ((own_below hown hb1).alloc (.cells #[.bool true,.slice B items.length d,.slice none 0 0] 285))
   have HI:=Hdz ((own_base hIt hz).alloc (.cells #[.bool true,.slice B items.length d,.slice none 0 0] 285))
   have HS:=Hdz ((hst.out.below hb1).below ((Below.refl _ w1).alloc (Nat.le_refl _) (.cells #[.bool true,.slice B items.length d,.slice none 0 0] 285)))
   have HB:=Hdz ((hb.trans (hb1.mono hz)).alloc (by omega) (.cells #[.bool true,.slice B items.length d,.slice none 0 0] 285))
   clear hown hIt hst hb hb1 hs
   go_wp2_with (fail)
   refine wRz ?_
   try simp only [lAz]
   refine tA 0 ?_;try simp only [lAz]
   refine tA 1 ?_;try simp only [lAz]
   refine tA 2 ?_;try simp only [lAz]
   refine tA 4 ?_;try simp only [lAz]
   refine tA 5 ?_;try simp only [lAz]
   refine rZz 3 λ K hK=>?_;go_simp;apply hK;clear hK K
   refine rZz 6 λ K hK=>?_;go_simp;apply hK;clear hK K
   refine rZz 7 λ K hK=>?_;go_simp;apply hK;clear hK K
   refine wDz ?_
   go_wp2_with (fail)
   refine bodyPost_ret (v:=.tuple #[.slice A done.length cc,.int .i64 cur,.slice B items.length d,.int .i64 0]) (by simp [results,Tryz.results133,go_sem]) rfl ?_
   exact ⟨_,done,_,rfl,HO.out,by have:=hP.out;rwa [List.append_nil] at this,HS.out,HI.out,HB.out.drew⟩
  ·subst hR
   have HX:=Hdz (load_branch cur done.length L wr hpg hm hr hs hk hne)
   have hl2:=layC_len L
   have hL120:L.length<=120:=by omega
   have hq30:done.length<30:=hk
   clear hm hway hne h hpg
   go_wp2_with (fail)
   go_must (refine HX.out.mono ?_)
   rintro e w1 ⟨v,rfl,hIt,hb1⟩
   unfold OwnsC at hIt
   obtain ⟨B,d,rfl,hBr⟩:=Sl.of_own hIt
   have bx:Blk (w1.alloc (.cells #[.bool false,.slice none 0 0,.slice B L.length d] 285)) w1.heap.size 285 #[.bool false,.slice none 0 0,.slice B L.length d]:=Blk.new _ _ _
   have x0:(w1.alloc (.cells #[.bool false,.slice none 0 0,.slice B L.length d] 285)).cell? ⟨w1.heap.size,0,none⟩=some (.bool false):=bx.cell 0
   have x2:(w1.alloc (.cells #[.bool false,.slice none 0 0,.slice B L.length d] 285)).cell? ⟨w1.heap.size,2,none⟩=some (.slice B L.length d):=bx.cell 2
   have hs1:=hb1.size
   have HO:=Hdz ((own_below hown hb1).alloc (.cells #[.bool false,.slice none 0 0,.slice B L.length d] 285))
   have hI2:=(own_base hIt hz).alloc (.cells #[.bool false,.slice none 0 0,.slice B L.length d] 285)
   have HS:=Hdz ((hst.out.below hb1).below ((Below.refl _ w1).alloc (Nat.le_refl _) (.cells #[.bool false,.slice none 0 0,.slice B L.length d] 285)))
   have HB:=Hdz ((hb.trans (hb1.mono hz)).alloc (by omega) (.cells #[.bool false,.slice none 0 0,.slice B L.length d] 285))
   have HF:=Hdz (findC_any B L.length d L key _ (Sl.of_own hI2) (by omega) hr)
   have HI:=Hdz hI2
   clear hown hIt hst hb hb1 hs hI2
   go_wp2_with (fail)
   go_must (refine HF.out.mono ?_)
   rintro e w2 ⟨rfl,rfl⟩
   have hat1:=(List.getElem?_eq_some_iff.1 hat).1
   have hm1:done.length+1<=maxLen:=by unfold maxLen;omega
   go_wp2_with (at_builtin;go_must (refine wpList_append_own _ rfl _ _ 216 rfl w.heap.size 289 i0 _ 3 40 Tryz.underlying216 hi hz0 hz1 hz2 rfl (by decide) _ done.length (stepsCs done) rfl (HO.out.alloc _) ⟨w1.heap.size+1,0,none⟩ 1 1 (stepCs ⟨cur,findC key L,.slice B L.length d,L⟩) rfl rfl (row_newI _ (stepCs ⟨cur,findC key L,.slice B L.length d,L⟩) _ _ (by simp)) (by simp [Value.oneCell',stepCs]) hm1 (by omega) (by simp;omega) ?_))
   intro v4 w4 own4 hg4 _
   have K4:Keeps (λ k=>_=some k) (w1.alloc (.cells #[.bool false,.slice none 0 0,.slice B L.length d] 285)) w4:=((Keeps.refl (λ k=>_=some k) _).alloc _).grown hg4 (λ k hk _=>hk)
   have bx4:=bx.keeps K4 (λ e=>own_ne HO.out bx (by decide) _ e rfl)
   have y2:w4.cell? ⟨w1.heap.size,2,none⟩=some (.slice B L.length d):=bx4.cell 2
   have hI4:=own_keeps HI.out K4 (λ k hk e=>own_apart HI.out HO.out (by decide) k hk e)
   have HS4:Hid (StepsOk w4 w.heap.size (done++[⟨cur,findC key L,.slice B L.length d,L⟩])):=by
    intro s hs
    rcases List.mem_append.1 hs with hs | hs
    ·have:=HS.out s hs
     exact ⟨own_keeps this.1 K4 (λ k hk e=>own_apart this.1 HO.out (by decide) k hk e),this.2⟩
    ·simp only [List.mem_singleton] at hs
     subst hs
     exact ⟨hI4,hr⟩
   have HB4:=Hdz (HB.out.trans (K4.below HB.out.size (λ i hi hk=>by have:=(HO.out.lt i hk).1;omega)))
   have HO4:Hid (w4.ownsRow w.heap.size 289 3 v4 (done++[(⟨cur,findC key L,.slice B L.length d,L⟩:Step)]).length (stepsCs (done++[⟨cur,findC key L,.slice B L.length d,L⟩]))):=by
    show World.ownsRow _ _ _ _ _ _ _
    rw [stepsCs_snoc,List.length_append]
    exact own4
   obtain ⟨A',c',e0,_,_,hcl⟩:=Sl.of_own hI4
   cases e0
   obtain ⟨blk,off,rfl,hbl,hcell⟩:=hcl (by omega)
   obtain ⟨_,j1⟩:=child_2 (w:=w4) λ i u hu=>child_cells hcell hat1 i u hu
   rw [List.getElem?_eq_getElem hat1,Option.some.injEq] at hat
   subst hat
   have hP2:Hid ((done++[(⟨cur,findC key L,.slice (some ⟨blk,off,none⟩) L.length d,L⟩:Step)]).map Step.ghost++Q=P):=by
    show _=_
    rw [<- hP.out]
    simp [Step.ghost]
   have HQ2:Hid (Way M key (done++[(⟨cur,findC key L,.slice (some ⟨blk,off,none⟩) L.length d,L⟩:Step)]).length L[findC key L].page Q lid items):=by
    show Way _ _ _ _ _ _ _
    rw [List.length_append]
    exact hQ
   clear own4 hg4 hcell hI4 hcl K4 hBr hP hQ HX HF
   have hf0:(0:Int)<=(findC key L:Int):=by omega
   have hfl:(findC key L:Int)<(L.length:Int):=by omega
   go_wp2_with (fail)
   go_roundg Q.length
   case measure=>simp at hg;omega
   case rel=>exact ⟨done++[(⟨cur,findC key L,.slice (some ⟨blk,off,none⟩) L.length d,L⟩:Step)],Q,_,rfl,Nat.le_refl _,hP2,HQ2,HO4.out,HS4,HB4.out⟩
end
structure Wc where
 c:Pc
 b:Nat
 mv:Value
 dv:Value
def Wc.S (p:Nat) (x:Wc) (k:Nat):Prop:=x.c.S p k\/k=x.b\/x.mv.ownBlock=some k\/x.dv.ownBlock=some k
structure WkOk (w:World) (p:Nat) (x:Wc) (most:Nat) (M:Store) (cnt:Nat) (made dropped:List Int):Prop where
 pg:PgOk w p x.c most M cnt
 blk:Blk w x.b 235 #[ptrV p,x.mv,x.dv]
 nb:¬ x.c.S p x.b
 mo:w.ownsRow 0 3 1 x.mv made.length (intsV made)
 dr:w.ownsRow 0 3 1 x.dv dropped.length (intsV dropped)
 nm:∀ k,x.mv.ownBlock=some k->¬ x.c.S p k
 nd:∀ k,x.dv.ownBlock=some k->¬ x.c.S p k
 md:∀ k,x.mv.ownBlock=some k->x.dv.ownBlock≠some k
structure WkK (p:Nat) (x x':Wc) (w w':World):Prop where
 keeps:Keeps (x.S p) w w'
 sub:∀ k,x'.S p k->x.S p k\/w.heap.size<=k
 same:x'.b=x.b
 mb:x'.c.mb=x.c.mb
 db:x'.c.db=x.c.db
 wb:x'.c.wb=x.c.wb
theorem WkK.refl (p:Nat) (x:Wc) (w:World):WkK p x x w w:=⟨Keeps.refl _ _,λ _ h=>.inl h,rfl,rfl,rfl,rfl⟩
theorem WkK.trans {p:Nat} {x x1 x2:Wc} {w w1 w2:World} (h:WkK p x x1 w w1) (k:WkK p x1 x2 w1 w2):WkK p x x2 w w2:=by
 have hz:=h.keeps.size
 refine ⟨h.keeps.trans k.keeps λ i hi hs=>?_,λ i hs=>?_,k.same.trans h.same,k.mb.trans h.mb,k.db.trans h.db,k.wb.trans h.wb⟩
 ·rcases h.sub i hs with h1 | h1
  ·exact h1
  ·omega
 ·rcases k.sub i hs with h1 | h1
  ·exact h.sub i h1
  ·exact .inr (by omega)
theorem WkK.of_below {p:Nat} {x:Wc} {w w':World} (h:Below w.heap.size w w'):WkK p x x w w':=⟨Keeps.of_below h,λ _ h=>.inl h,rfl,rfl,rfl,rfl⟩
theorem WkK.pager {p:Nat} {x:Wc} {c':Pc} {w w':World} (h:PgK p x.c c' w w'):WkK p x { x with c:=c' } w w':=by
 refine ⟨h.keeps.mono λ _ _ h=>.inl h,λ k hk=>?_,rfl,h.mb,h.db,h.wb⟩
 rcases hk with h1 | h1
 ·rcases h.sub k h1 with h2 | h2
  ·exact .inl (.inl h2)
  ·exact .inr h2
 ·exact .inl (.inr h1)
section
variable {p most cnt:Nat} {x:Wc} {M:Store} {made dropped:List Int} {w w':World}
theorem WkOk.keeps {S:Nat->Prop} (h:WkOk w p x most M cnt made dropped) (hk:Keeps S w w') (hs:∀ k,x.S p k->¬ S k):WkOk w' p x most M cnt made dropped:=
 ⟨h.pg.keeps hk λ k hh=>hs k (.inl hh),h.blk.keeps hk (hs _ (.inr (.inl rfl))),h.nb,own_keeps h.mo hk λ k hh=>hs k (.inr (.inr (.inl hh))),own_keeps h.dr hk λ k hh=>hs k (.inr (.inr (.inr hh))),h.nm,h.nd,h.md⟩
theorem WkOk.below (h:WkOk w p x most M cnt made dropped) (hb:Below w.heap.size w w'):WkOk w' p x most M cnt made dropped:=h.keeps (Keeps.of_below (S:=λ _=>False) hb) λ _ _ hh=>hh
theorem WkOk.alloc (h:WkOk w p x most M cnt made dropped) (o:Obj):WkOk (w.alloc o) p x most M cnt made dropped:=h.below ((Below.refl _ _).alloc (Nat.le_refl _) o)
theorem WkOk.drew (h:WkOk w p x most M cnt made dropped):WkOk w.drew p x most M cnt made dropped:=h.below ((Below.refl _ _).drew)
theorem WkOk.lt (h:WkOk w p x most M cnt made dropped):∀ k,x.S p k->k<w.heap.size:=by
 rintro k (h1 | rfl | h1 | h1)
 ·exact h.pg.lt k h1
 ·exact h.blk.lt
 ·exact (h.mo.lt k h1).2
 ·exact (h.dr.lt k h1).2
theorem WkOk.pager {c':Pc} {M':Store} {cnt':Nat} (h:WkOk w p x most M cnt made dropped) (hp:PgOk w' p c' most M' cnt') (hk:PgK p x.c c' w w'):WkOk w' p { x with c:=c' } most M' cnt' made dropped:=by
 have hn:∀ k,k<w.heap.size->¬ x.c.S p k->¬ c'.S p k:=λ k hk1 h1 h2=>by
  rcases hk.sub k h2 with h3 | h3
  ·exact h1 h3
  ·omega
 exact ⟨hp,h.blk.keeps hk.keeps h.nb,hn _ h.blk.lt h.nb,own_keeps h.mo hk.keeps h.nm,own_keeps h.dr hk.keeps h.nd,λ k hh=>hn k (h.mo.lt k hh).2 (h.nm k hh),λ k hh=>hn k (h.dr.lt k hh).2 (h.nd k hh),h.md⟩
theorem WkOk.grownM {v:Value} {l:List Int} (h:WkOk w p x most M cnt made dropped) (hg:w.grownBy w' x.mv.ownBlock) (ho:w'.ownsRow 0 3 1 v (made.length+l.length) (intsV made++intsV l)) (hw:∀ k,v.ownBlock=some k->x.mv.ownBlock=some k\/w.heap.size<=k) :
  WkOk (w'.setCell ⟨x.b,1,none⟩ v) p { x with mv:=v } most M cnt (made++l) dropped/\WkK p x { x with mv:=v } w (w'.setCell ⟨x.b,1,none⟩ v):=by
 have K1:Keeps (λ k=>x.mv.ownBlock=some k) w w':=(Keeps.refl (λ k=>x.mv.ownBlock=some k) _).grown hg (λ k hk _=>hk)
 have hmb:∀ k,x.mv.ownBlock=some k->k≠x.b:=own_ne h.mo h.blk (by decide)
 have hdb:∀ k,x.dv.ownBlock=some k->k≠x.b:=own_ne h.dr h.blk (by decide)
 have b1:=h.blk.keeps K1 (λ e=>hmb _ e rfl)
 have K2:Keeps (λ k=>x.mv.ownBlock=some k\/k=x.b) w (w'.setCell ⟨x.b,1,none⟩ v):=(K1.mono λ _ _ h=>.inl h).setCell (λ _=>.inr rfl) v
 have hvb:∀ k,v.ownBlock=some k->k≠x.b:=λ k hk e=>by
  rcases hw k hk with h1 | h1
  ·exact hmb k h1 e
  ·have:=h.blk.lt;omega
 refine ⟨⟨h.pg.keeps K2 λ k hk e=>?_,b1.set 1 v,h.nb,?_,own_keeps h.dr K2 λ k hk e=>?_,λ k hk e=>?_,h.nd,λ k hk e=>?_⟩,K2.mono λ k _ e=>?_,λ k hk=>?_,rfl,rfl,rfl,rfl⟩
 ·rcases e with e | e
  ·exact h.nm k e hk
  ·exact h.nb (e ▸ hk)
 ·have:=own_keeps (S:=λ k=>k=x.b) ho ((Keeps.refl (λ k=>k=x.b) _).setCell (p:=⟨x.b,1,none⟩) (λ _=>rfl) v) hvb
  simpa [intsV] using this
 ·rcases e with e | e
  ·exact h.md k e hk
  ·exact hdb k hk e
 ·rcases hw k hk with h1 | h1
  ·exact h.nm k h1 e
  ·have:=h.pg.lt k e;omega
 ·rcases hw k hk with h1 | h1
  ·exact h.md k h1 e
  ·have:=(h.dr.lt k e).2;omega
 ·rcases e with e | e
  ·exact .inr (.inr (.inl e))
  ·exact .inr (.inl e)
 ·rcases hk with h1 | h1 | h1 | h1
  ·exact .inl (.inl h1)
  ·exact .inl (.inr (.inl h1))
  ·rcases hw k h1 with h2 | h2
   ·exact .inl (.inr (.inr (.inl h2)))
   ·exact .inr h2
  ·exact .inl (.inr (.inr (.inr h1)))
theorem WkOk.grownD {v:Value} {l:List Int} (h:WkOk w p x most M cnt made dropped) (hg:w.grownBy w' x.dv.ownBlock) (ho:w'.ownsRow 0 3 1 v (dropped.length+l.length) (intsV dropped++intsV l)) (hw:∀ k,v.ownBlock=some k->x.dv.ownBlock=some k\/w.heap.size<=k) :
  WkOk (w'.setCell ⟨x.b,2,none⟩ v) p { x with dv:=v } most M cnt made (dropped++l)/\WkK p x { x with dv:=v } w (w'.setCell ⟨x.b,2,none⟩ v):=by
 have K1:Keeps (λ k=>x.dv.ownBlock=some k) w w':=(Keeps.refl (λ k=>x.dv.ownBlock=some k) _).grown hg (λ k hk _=>hk)
 have hmb:∀ k,x.mv.ownBlock=some k->k≠x.b:=own_ne h.mo h.blk (by decide)
 have hdb:∀ k,x.dv.ownBlock=some k->k≠x.b:=own_ne h.dr h.blk (by decide)
 have b1:=h.blk.keeps K1 (λ e=>hdb _ e rfl)
 have K2:Keeps (λ k=>x.dv.ownBlock=some k\/k=x.b) w (w'.setCell ⟨x.b,2,none⟩ v):=(K1.mono λ _ _ h=>.inl h).setCell (λ _=>.inr rfl) v
 have hvb:∀ k,v.ownBlock=some k->k≠x.b:=λ k hk e=>by
  rcases hw k hk with h1 | h1
  ·exact hdb k h1 e
  ·have:=h.blk.lt;omega
 refine ⟨⟨h.pg.keeps K2 λ k hk e=>?_,b1.set 2 v,h.nb,own_keeps h.mo K2 λ k hk e=>?_,?_,h.nm,λ k hk e=>?_,λ k hk e=>?_⟩,K2.mono λ k _ e=>?_,λ k hk=>?_,rfl,rfl,rfl,rfl⟩
 ·rcases e with e | e
  ·exact h.nd k e hk
  ·exact h.nb (e ▸ hk)
 ·rcases e with e | e
  ·exact h.md k hk e
  ·exact hmb k hk e
 ·have:=own_keeps (S:=λ k=>k=x.b) ho ((Keeps.refl (λ k=>k=x.b) _).setCell (p:=⟨x.b,2,none⟩) (λ _=>rfl) v) hvb
  simpa [intsV] using this
 ·rcases hw k hk with h1 | h1
  ·exact h.nd k h1 e
  ·have:=h.pg.lt k e;omega
 ·rcases hw k e with h1 | h1
  ·exact h.md k hk h1
  ·have:=(h.mo.lt k hk).2;omega
 ·rcases e with e | e
  ·exact .inr (.inr (.inr e))
  ·exact .inr (.inl e)
 ·rcases hk with h1 | h1 | h1 | h1
  ·exact .inl (.inl h1)
  ·exact .inl (.inr (.inl h1))
  ·exact .inl (.inr (.inr (.inl h1)))
  ·rcases hw k h1 with h2 | h2
   ·exact .inl (.inr (.inr (.inr h2)))
   ·exact .inr h2
theorem WkOk.blkM (h:WkOk w p x most M cnt made dropped) (hg:w.grownBy w' x.mv.ownBlock):Blk w' x.b 235 #[ptrV p,x.mv,x.dv]:=
 h.blk.keeps ((Keeps.refl (λ k=>x.mv.ownBlock=some k) _).grown hg (λ k hk _=>hk)) (λ e=>own_ne h.mo h.blk (by decide) _ e rfl)
theorem WkOk.blkD (h:WkOk w p x most M cnt made dropped) (hg:w.grownBy w' x.dv.ownBlock):Blk w' x.b 235 #[ptrV p,x.mv,x.dv]:=
 h.blk.keeps ((Keeps.refl (λ k=>x.dv.ownBlock=some k) _).grown hg (λ k hk _=>hk)) (λ e=>own_ne h.dr h.blk (by decide) _ e rfl)
def PageP (p:Nat) (x:Wc) (most:Nat) (M:Store) (cnt:Nat) (made dropped:List Int) (g:Pg) (w:World) (e:Ending) (w':World):Prop:=
 ∃ id x',e=.returned (.tuple #[.int .i64 id,.int .i64 0])/\M id=none/\2<=id/\id<=100000/\WkOk w' p x' most (updS M id (some g)) (cnt+1) (made++[id]) dropped/\WkK p x x' w w'
theorem page_any (g:Pg) (h:WkOk w p x most M cnt made dropped) (hx:g.ok) (h0:g.next=0) (hroom:cnt+3<=most) (hmd:made.length<=100000) :
  Calls Tryz.prog 199 #[ptrV x.b,.int .i64 g.kind,strV g.body] w (PageP p x most M cnt made dropped g w):=by
 obtain ⟨i0,hi,hz0,hz1,hz2⟩:=info_parts infoInt
 obtain ⟨gk,gn,gb⟩:=g
 simp only at h0
 subst h0
 have hMk:=Hdz (make_any (M:=M) ⟨gk,0,gb⟩ w h.pg hx hroom)
 have g0:w.cell? ⟨x.b,0,none⟩=some (ptrV p):=h.blk.cell 0
 go_enter Tryz.func199,Tryz.ntmps199
 go_wp2_with (fail)
 go_must (refine hMk.out.mono ?_)
 rintro e w1 ⟨id,c',rfl,hid,hid2,hid3,hpg,hK⟩
 have h1:=h.pager hpg hK
 have kk1:=WkK.pager (x:=x) hK
 have g1:w1.cell? ⟨x.b,1,none⟩=some x.mv:=h1.blk.cell 1
 have hmo:∀ o,(w1.alloc o).ownsRow 0 3 1 x.mv made.length (intsV made):=λ o=>(h1.alloc o).mo
 have hm1:made.length+1<=maxLen:=by unfold maxLen;omega
 go_wp2_with (at_builtin;go_must (refine wpList_append_at rfl _ _ 35 rfl 0 3 i0 _ 1 8 Tryz.underlying35 hi hz0 hz1 hz2 rfl (by decide) _ made.length (intsV made) rfl (hmo _) ⟨w1.heap.size,0,none⟩ 1 1 [.int .i64 id] rfl rfl (row_newS _ _ _ _ rfl) (by simp [Value.oneCell']) hm1 (by omega) (by simp) ?_))
 intro v4 w4 own4 hg4 hw4
 have h2:=h1.alloc (.cells #[.int .i64 id] 3)
 obtain ⟨h3,kk3⟩:=h2.grownM (l:=[id]) hg4 own4 (by simpa using hw4)
 have bb:=h2.blkM hg4
 have c1:w4.cell? ⟨x.b,1,none⟩=some x.mv:=bb.cell 1
 have f1:w4.frozen? ⟨x.b,1,none⟩=false:=bb.frozen 1
 obtain ⟨A4,c4,rfl,_⟩:=Sl.of_own own4
 have HE:Hid (PageP p x most M cnt made dropped ⟨gk,0,gb⟩ w (.returned (.tuple #[.int .i64 id,.int .i64 0])) (w4.setCell ⟨x.b,1,none⟩ (.slice A4 (made.length+1) c4))):=
  ⟨id,_,rfl,hid,hid2,hid3,h3,(kk1.trans (WkK.of_below ((Below.refl _ _).alloc (Nat.le_refl _) _))).trans kk3⟩
 clear own4 hg4 hw4 h1 h2 h3 kk3 kk1 hpg hK hmo
 go_wp2_with (fail)
 refine bodyPost_ret (v:=.tuple #[.int .i64 id,.int .i64 0]) (by simp [results,Tryz.results199,go_sem]) rfl ?_
 exact HE.out
end
def dropAll (M:Store) (l:List Int):Store:=l.foldl (λ M i=>updS M i none) M
theorem dropAll_snoc (M:Store) (l:List Int) (i:Int):dropAll M (l++[i])=updS (dropAll M l) i none:=by simp [dropAll]
theorem dropAll_at (M:Store):∀ (l:List Int) (i:Int),dropAll M l i=if i∈l then none else M i:=by
 intro l
 induction l generalizing M with
 | nil=>intro i;rfl
 | cons a l ih =>
  intro i
  show dropAll (updS M a none) l i=_
  rw [ih,updS]
  by_cases h1:i∈l
  ·simp [h1]
  ·by_cases h2:i=a
   ·simp [h1,h2]
   ·simp [h1,h2]
def EndP (p:Nat) (c:Pc) (most:Nat) (M:Store) (cnt:Nat) (l:List Int) (w:World) (e:Ending) (w':World):Prop:=
 e=.returned (.int .i64 0)/\∃ c',PgOk w' p c' most (dropAll M l) (cnt-l.length)/\PgK p c c' w w'
section
variable {p most cnt:Nat} {x:Wc} {M:Store} {made dropped:List Int} {w w':World}
theorem end_ok (h:WkOk w p x most M cnt made dropped) (hn:dropped.Nodup) (hM:∀ i∈dropped,(M i).isSome=true) (hl:dropped.length<=100000) :
  Calls Tryz.prog 146 #[ptrV x.b,.int .i64 0] w (EndP p x.c most M cnt dropped w):=by
 obtain ⟨c,b,mv,dv⟩:=x
 have hdr:=h.dr
 simp only at hdr
 obtain ⟨A,cc,rfl,_⟩:=Sl.of_own hdr
 clear hdr
 have g0:w.cell? ⟨b,0,none⟩=some (ptrV p):=h.blk.cell 0
 have g2:w.cell? ⟨b,2,none⟩=some (.slice A dropped.length cc):=h.blk.cell 2
 have HN:=Hdz hn
 have HM:=Hdz hM
 clear hn hM
 go_enter Tryz.func146,Tryz.ntmps146
 go_wp2_with (fail)
 go_loopg [20] dropped.length (λ gk s20 wr=>∃ (done rest:List Int) (c1:Pc),s20=.int .i64 done.length/\rest.length<=gk/\Hid (dropped=done++rest)/\WkOk wr p ⟨c1,b,mv,.slice A dropped.length cc⟩ most (dropAll M done) (cnt-done.length) made dropped/\Hid (PgK p c c1 w wr))
 case atStart=>exact ⟨[],dropped,c,rfl,Nat.le_refl _,rfl,h,PgK.refl _ _ _⟩
 case round =>
  obtain ⟨done,rest,c1,rfl,hg,hD,hW,hK⟩:=hrel
  have hlen:dropped.length=done.length+rest.length:=by rw [hD.out,List.length_append]
  cases rest with
  | nil =>
   have hdd:Hid (done=dropped):=by show _=_;rw [hD.out,List.append_nil]
   have hln:done.length=dropped.length:=by rw [hdd.out]
   have HW:=Hdz hW.pg
   have hge:¬ (done.length:Int)<(dropped.length:Int):=by omega
   clear hW hD hlen hg
   go_wp2_with (fail)
   go_ret
   refine ⟨rfl,c1,?_,hK.out⟩
   have:=HW.out
   rw [hdd.out] at this
   exact this
  | cons y r =>
   have hlt:(done.length:Int)<(dropped.length:Int):=by rw [hlen];simp;omega
   have hlt2:done.length<dropped.length:=by omega
   have hge0:(0:Int)<=(done.length:Int):=by omega
   have g0r:wr.cell? ⟨b,0,none⟩=some (ptrV p):=hW.blk.cell 0
   obtain ⟨A',c',e0,_,_,hcl⟩:=Sl.of_own hW.dr
   cases e0
   obtain ⟨blk,off,rfl,hbl,hcell⟩:=hcl (by omega)
   have hyv:wr.cell? ⟨blk,off+done.length,none⟩=some (.int .i64 y):=hcell done.length _ (by rw [hD.out];simp [intsV])
   have hy:(dropAll M done y).isSome=true:=by
    rw [dropAll_at,if_neg]
    ·exact HM.out y (by rw [hD.out];simp)
    ·intro hm
     have:=HN.out
     rw [hD.out,List.nodup_append] at this
     exact this.2.2 y hm y (List.mem_cons_self ..) rfl
   obtain ⟨pg,hpg⟩:=Option.isSome_iff_exists.1 hy
   have HDr:=Hdz (drop_any y pg wr hW.pg hpg)
   have hD2:Hid (dropped=(done++[y])++r):=by show _=_;rw [hD.out];simp
   have hrg:r.length<gk:=by simp at hg;omega
   have HW:=Hdz hW
   clear hcl hcell hpg hy hD hlen hW
   go_wp2_with (fail)
   go_must (refine HDr.out.mono ?_)
   rintro e w1 ⟨rfl,c2,hp2,hK2⟩
   have HW2:=Hdz (HW.out.pager hp2 hK2)
   have HK2:=Hdz (hK.out.trans hK2)
   clear hp2 hK2
   go_wp2_with (fail)
   go_roundg r.length
   case measure=>omega
   case rel=>exact ⟨done++[y],r,c2,by simp,Nat.le_refl _,hD2,by have:=HW2.out;rw [dropAll_snoc,List.length_append];rwa [Nat.sub_sub] at this,HK2⟩
end
def LeafP1 (p:Nat) (x:Wc) (most:Nat) (M:Store) (cnt:Nat) (made dropped:List Int) (l:List Item) (w:World) (e:Ending) (w':World):Prop:=
 ∃ id x' v,e=.returned (.tuple #[v,.int .i64 0])/\M id=none/\2<=id/\id<=100000/\OwnsC w' w.heap.size v [⟨[],id⟩]/\(∀ k,v.ownBlock=some k->¬ x'.S p k) ∧
  WkOk w' p x' most (updS M id (some ⟨2,0,layI l⟩)) (cnt+1) (made++[id]) dropped/\WkK p x x' w w'
theorem putI_fit {l:List Item} (hr:riseI l=true) (hs:(layI l).length<=240):putI l=(layI l,0):=by
 unfold putI
 simp [hr]
 omega
theorem own_child1 (w:World) (b:Bytes) (id:Int):OwnsC (w.alloc (.cells #[strV b,.int .i64 id] 291)) w.heap.size (.slice (some ⟨w.heap.size,0,none⟩) 1 1) [⟨b,id⟩]:=
 own_of (heap_alloc_new w _) (Nat.le_refl _) (Nat.le_refl _) (by unfold maxLen;omega) rfl rfl (λ j hj=>by
  match j with
  | 0=>rfl
  | 1=>rfl
  | j+2=>omega)
section
variable {p most cnt:Nat} {x:Wc} {M:Store} {made dropped:List Int} {w w':World}
theorem leaves1_ok (A:Option Addr) (n c:Nat) (l:List Item) (h:WkOk w p x most M cnt made dropped) (hv:Sl w 4 (.slice A n c) n (itemsCs l)) (ho:ItemsOk l) (hr:riseI l=true) (hs:(layI l).length<=240) (hroom:cnt+3<=most) (hmd:made.length<=100000) :
  Calls Tryz.prog 147 #[ptrV x.b,.slice A n c] w (LeafP1 p x most M cnt made dropped l w):=by
 have hP:=putI_any A n c l w hv ho
 unfold PutPost at hP
 rw [putI_fit hr hs] at hP
 have HP:=Hdz hP
 have HPg:=Hdz (λ (W:World) (hW:WkOk W p x most M cnt made dropped)=>page_any ⟨2,0,layI l⟩ hW ⟨by simp,by simp,by simp,by simp,hs⟩ rfl hroom hmd)
 have HH:=Hdz h
 clear hP h hv ho hr
 go_enter Tryz.func147,Tryz.ntmps147
 go_wp2_with (fail)
 go_must (refine HP.out.mono ?_)
 rintro e w1 ⟨rfl,hb1⟩
 have HH1:=Hdz (HH.out.below hb1)
 go_wp2_with (fail)
 go_must (refine (HPg.out w1 HH1.out).mono ?_)
 rintro e w2 ⟨id,x',rfl,hid,hid2,hid3,hW,hK⟩
 have HE:Hid (LeafP1 p x most M cnt made dropped l w (.returned (.tuple #[.slice (some ⟨w2.heap.size,0,none⟩) 1 1,.int .i64 0])) (w2.alloc (.cells #[strV [],.int .i64 id] 291))):=
  ⟨id,x',_,rfl,hid,hid2,hid3,own_base (own_child1 w2 [] id) (by have:=hb1.size;have:=hK.keeps.size;omega),λ k hk hs=>by
   simp only [Value.ownBlock,Option.some.injEq] at hk
   have:=hW.lt k hs
   omega,hW.alloc _,((WkK.of_below hb1).trans hK).trans (WkK.of_below ((Below.refl _ _).alloc (Nat.le_refl _) _))⟩
 clear hW hK
 go_wp2_with (fail)
 refine bodyPost_ret (v:=.tuple #[.slice (some ⟨w2.heap.size,0,none⟩) 1 1,.int .i64 0]) (by simp [results,Tryz.results147,go_sem]) rfl ?_
 exact HE.out
theorem WkK.fresh {S:Nat->Prop} {x':Wc} {w'':World} (h:WkK p x x' w w') (hk:Keeps S w' w'') (hs:∀ k,S k->w.heap.size<=k):WkK p x x' w w'':=
 ⟨h.keeps.trans hk λ i hi hh=>by have:=hs i hh;omega,h.sub,h.same,h.mb,h.db,h.wb⟩
theorem putI_long {l:List Item} (hr:riseI l=true) (hs:240<(layI l).length):putI l=([],2):=by
 unfold putI
 simp [hr,hs]
def LeafP2 (p:Nat) (x:Wc) (most:Nat) (M:Store) (cnt:Nat) (made dropped:List Int) (a b:List Item) (k:Bytes) (w:World) (e:Ending) (w':World):Prop:=
 ∃ i1 i2 x' v,e=.returned (.tuple #[v,.int .i64 0])/\M i1=none/\2<=i1/\i1<=100000/\updS M i1 (some ⟨2,0,layI a⟩) i2=none/\2<=i2/\i2<=100000/\OwnsC w' w.heap.size v [⟨[],i1⟩,⟨k,i2⟩]/\(∀ k,v.ownBlock=some k->¬ x'.S p k) ∧
  WkOk w' p x' most (updS (updS M i1 (some ⟨2,0,layI a⟩)) i2 (some ⟨2,0,layI b⟩)) (cnt+2) (made++[i1,i2]) dropped/\WkK p x x' w w'
theorem leaves2_ok (A:Option Addr) (n c:Nat) (l a b:List Item) (y:Item) (r:List Item) (h:WkOk w p x most M cnt made dropped) (hv:Sl w 4 (.slice A n c) n (itemsCs l)) (ho:ItemsOk l) (hn:n<=90000) (hr:riseI l=true) (hs:240<(layI l).length)
  (hsp:splitI l=(a,b)) (hb:b=y :: r) (hra:riseI a=true) (hrb:riseI b=true) (hoa:ItemsOk a) (hob:ItemsOk b) (hsa:(layI a).length<=240) (hsb:(layI b).length<=240) (hroom:cnt+4<=most) (hmd:made.length+1<=100000) :
  Calls Tryz.prog 147 #[ptrV x.b,.slice A n c] w (LeafP2 p x most M cnt made dropped a b y.key w):=by
 obtain ⟨i0,hi,hz0,hz1,hz2⟩:=info_parts infoC
 have hP:=putI_any A n c l w hv ho
 unfold PutPost at hP
 rw [putI_long hr hs] at hP
 have HP:=Hdz hP
 have HS:Hid (∀ W,Below w.heap.size w W->Calls Tryz.prog 200 #[.slice A n c] W (SplitPost l W)):=λ W hW=>splitI_any A n c l W (hv.below hW) ho hn
 have HL1:Hid (∀ (W:World) (A1:Option Addr) (na c1:Nat),WkOk W p x most M cnt made dropped->Sl W 4 (.slice A1 na c1) na (itemsCs a)->Calls Tryz.prog 147 #[ptrV x.b,.slice A1 na c1] W (LeafP1 p x most M cnt made dropped a W)):=
  λ W A1 na c1 q1 q2=>leaves1_ok A1 na c1 a q1 q2 hoa hra hsa (by omega) (by omega)
 have HL2:Hid (∀ (W:World) (A1:Option Addr) (na c1:Nat) (x1:Wc) (M1:Store) (made1:List Int),made1.length=made.length+1->WkOk W p x1 most M1 (cnt+1) made1 dropped->Sl W 4 (.slice A1 na c1) na (itemsCs b)->Calls Tryz.prog 147 #[ptrV x1.b,.slice A1 na c1] W (LeafP1 p x1 most M1 (cnt+1) made1 dropped b W)):=
  λ W A1 na c1 x1 M1 made1 q0 q1 q2=>leaves1_ok A1 na c1 b q1 q2 hob hrb hsb (by omega) (by omega)
 have HH:=Hdz h
 have HSP:=Hdz hsp
 have HBY:=Hdz hb
 clear hP h hv ho hr hsp hb hs hra hrb hoa hob hsa hsb hn
 go_enter Tryz.func147,Tryz.ntmps147
 go_wp2_with (fail)
 go_must (refine HP.out.mono ?_)
 rintro e w1 ⟨rfl,hb1⟩
 go_wp2_with (fail)
 go_must (refine (HS.out w1 hb1).mono ?_)
 rintro e w2 ⟨v1,v2,rfl,o1,o2,hb2⟩
 rw [HSP.out] at o1 o2
 simp only at o1 o2
 obtain ⟨na,hna⟩:=nmz (a.length)
 obtain ⟨nb,hnb⟩:=nmz (b.length)
 rw [hna] at o1
 rw [hnb] at o2
 obtain ⟨A1,c1,rfl,_⟩:=Sl.of_own o1
 obtain ⟨A2,c2,rfl,_⟩:=Sl.of_own o2
 have hnb1:¬ nb=0:=by rw [<- hnb,HBY.out];simp
 have hnb0:0<nb:=Nat.pos_of_ne_zero hnb1
 have hs1:=hb1.size
 have hs2:=hb2.size
 have hW2:=HH.out.below (hb1.trans (hb2.mono hs1))
 have HK2:=Hdz (WkK.of_below (p:=p) (x:=x) (hb1.trans (hb2.mono hs1)))
 have hC1:=Hdz (HL1.out w2 A1 na c1 hW2 (Sl.of_own o1))
 have O2:=Hdz o2
 clear hW2 o1 o2
 go_wp2_with (fail)
 go_must (refine hC1.out.mono ?_)
 rintro e w3 ⟨id1,x1,v12,rfl,hm1,hl1,hu1,own12,hns12,hW3,hK3⟩
 have o23:=own_keeps O2.out hK3.keeps (λ k hk hs=>by have:=HH.out.lt k hs;have:=(O2.out.lt k hk).1;omega)
 have hC2:=Hdz (HL2.out w3 A2 nb c2 x1 _ _ (by simp) hW3 (Sl.of_own o23))
 have hxb:=hK3.same
 have n23:∀ k,(Value.slice A2 nb c2).ownBlock=some k->¬ x1.S p k:=λ k hk hs=>by
  rcases hK3.sub k hs with h1 | h1
  ·have:=HH.out.lt k h1;have:=(O2.out.lt k hk).1;omega
  ·have:=(O2.out.lt k hk).2;omega
 have hs3:=hK3.keeps.size
 unfold OwnsC at own12
 obtain ⟨A12,c12,rfl,_⟩:=Sl.of_own own12
 rw [hxb] at hC2
 go_wp2_with (fail)
 go_must (refine hC2.out.mono ?_)
 rintro e w4 ⟨id2,x2,v14,rfl,hm2,hl2,hu2,own14,hns14,hW4,hK4⟩
 unfold OwnsC at own14
 rcases own14.2 with ⟨_,h0⟩ | ⟨g,cap,cur,rfl,hgb,hheap,hnc,hcm,hcs,hcx⟩
 ·cases h0
 have hs4:=hK4.keeps.size
 -- the halves' rows behind the second call
 have o24:=own_keeps o23 hK4.keeps n23
 have own124:=own_keeps own12 hK4.keeps hns12
 have hns124:∀ k,(Value.slice A12 1 c12).ownBlock=some k->¬ x2.S p k:=λ k hk hs=>by
  rcases hK4.sub k hs with h1 | h1
  ·exact hns12 k hk h1
  ·have:=(own12.lt k hk).2;omega
 obtain ⟨blk,off,hAe,hbl,hcell⟩:∃ blk off,A2=some ⟨blk,off,none⟩/\blk<w4.heap.size/\∀ j u,(itemsCs b)[j]? = some u->w4.cell? ⟨blk,off+j,none⟩=some u:=by
  obtain ⟨_,_,e0,_,_,hcl⟩:=Sl.of_own o24
  cases e0
  exact hcl hnb0
 subst hAe
 have y0:w4.cell? ⟨blk,off,none⟩=some (strV y.key):=hcell 0 _ (by rw [HBY.out];rfl)
 obtain ⟨u0,d0⟩:∃ u,w4.cell? ⟨g,0,none⟩=some u:=⟨_,by rw [cell_of_row w4 g _ cur _ (0,0) hheap];exact Array.getElem?_eq_getElem (by simp at hnc;omega)⟩
 have f0:=own14.frozenAt 0
 obtain ⟨q14,_⟩:=own14.stored 0 (strV y.key)
 have hgne:∀ k,(Value.slice A12 1 c12).ownBlock=some k->k≠g:=λ k hk e=>by have:=(own12.lt k hk).2;omega
 have K5:Keeps (λ k=>k=g) w4 (w4.setCell ⟨g,0,none⟩ (strV y.key)):=(Keeps.refl (λ k=>k=g) _).setCell (p:=⟨g,0,none⟩) (λ _=>rfl) _
 have own125:=own_keeps own124 K5 hgne
 have hW5:=hW4.keeps K5 (λ k hk e=>hns14 k (by rw [e];rfl) hk)
 have hnews:∀ j u,(childCs ⟨y.key,id2⟩)[j]? = some u->(w4.setCell ⟨g,0,none⟩ (strV y.key)).cell? ((⟨g,0,none⟩:Addr).add j)=some u:=by
  obtain ⟨_,_,e0,_,_,hcl⟩:=Sl.of_own q14
  cases e0
  obtain ⟨b',o',e1,_,hcl2⟩:=hcl (by simp)
  cases e1
  intro j u hu
  rw [addr_add]
  refine hcl2 j u ?_
  rw [<- hu]
  rfl
 have hs5:=K5.size
 have hb5:w2.heap.size<=(w4.setCell ⟨g,0,none⟩ (strV y.key)).heap.size:=by omega
 have HK5:=Hdz (((HK2.out.trans hK3).trans hK4).fresh K5 (λ k hk=>by rw [hk];have:=hgb;omega))
 have HW5:=Hdz hW5
 have HO5:=Hdz own125
 have HN:=Hdz hnews
 clear hcell q14 hnews hW5 hW4 hW3 o23 o24 own12 own14 own124 own125 hcx hcs hheap K5 hC2 hC1 HP HS HL1 HL2 hK3 hK4
 go_wp2_with (at_builtin;go_must (refine wpList_append_at rfl _ _ 240 rfl w2.heap.size 291 i0 _ 2 24 Tryz.underlying240 hi hz0 hz1 hz2 rfl (by decide) _ 1 (childrenCs [⟨[],id1⟩]) rfl HO5.out ⟨g,0,none⟩ 1 cap (childCs ⟨y.key,id2⟩) rfl rfl HN.out (by simp [childCs,Value.oneCell']) (by unfold maxLen;omega) (by omega) hb5 ?_))
 intro v6 w6 own6 hg6 hw6
 have hsz:(w4.setCell ⟨g,0,none⟩ (strV y.key)).heap.size=w4.heap.size:=by simp [World.setCell]
 have K6:Keeps (λ k=>(Value.slice A12 1 c12).ownBlock=some k) (w4.setCell ⟨g,0,none⟩ (strV y.key)) w6:=(Keeps.refl (λ k=>(Value.slice A12 1 c12).ownBlock=some k) _).grown hg6 (λ k hk _=>hk)
 have hW6:=HW5.out.keeps K6 (λ k hk e=>hns124 k e hk)
 have hK6:=HK5.out.fresh K6 (λ k hk=>by have:=(HO5.out.lt k hk).1;omega)
 have HE:Hid (LeafP2 p x most M cnt made dropped a b y.key w (.returned (.tuple #[v6,.int .i64 0])) w6):=by
  refine ⟨id1,id2,x2,v6,rfl,hm1,hl1,hu1,hm2,hl2,hu2,own_base own6 (by omega),λ k hk hs=>?_,by simpa using hW6,hK6⟩
  rcases hw6 k hk with h1 | h1
  ·exact hns124 k h1 hs
  ·have:=HW5.out.lt k hs;rw [hsz] at this;omega
 clear own6 hg6 hw6 K6 hW6 hK6
 go_wp2_with (fail)
 refine bodyPost_ret (v:=.tuple #[v6,.int .i64 0]) (by simp [results,Tryz.results147,go_sem]) rfl ?_
 exact HE.out
end
end Go.Ev
