/-
  Texts of this claim.
-/
import Derived.Test.YtmfoiaaehkandaaGreatDoorMBGwPick
import Derived.Test.YtmfoiaaehkandaaGreatDoorMBGwWork
set_option linter.unusedVariables false
set_option linter.unusedSimpArgs false
set_option maxHeartbeats 4000000
set_option maxRecDepth 100000
namespace Go.Ev
theorem Seg.get {T:Int->Bytes->Option Bytes->List Pair->List Int->Prop}:∀ {L:List Child} {hi:Option Bytes} {ps:List Pair} {ids:List Int} {i:Nat} {y:Child},Seg T L hi ps ids->L[i]? = some y->∃ h p q,T y.page y.key h p q
 | [],_,_,_,_,_,_,h=>by simp at h
 | c :: L,hi,ps,ids,0,y,⟨p1,p2,i1,i2,_,_,h3,_⟩,h=>by
  simp only [List.getElem?_cons_zero,Option.some.injEq] at h
  subst h
  exact ⟨_,_,_,h3⟩
 | c :: L,hi,ps,ids,i+1,y,⟨p1,p2,i1,i2,_,_,_,h4⟩,h=>Seg.get h4 (by simpa using h)
theorem headKey_page (k:Bytes):∀ (L:List Child) (i:Nat) (x:Child),(headKey k L)[i]? = some x->∃ y,L[i]? = some y/\y.page=x.page
 | [],i,x,h=>by simp [headKey] at h
 | c :: L,0,x,h=>by
  simp only [headKey,List.getElem?_cons_zero,Option.some.injEq] at h
  subst h
  exact ⟨c,rfl,rfl⟩
 | c :: L,i+1,x,h=>⟨x,by simpa [headKey] using h,rfl⟩
theorem findC_lt {k:Bytes} {c:Child} {L:List Child}:findC k (c :: L)<(c :: L).length:=by
 have:=below_le k L
 unfold findC
 simp only [List.tail_cons,List.length_cons]
 omega
theorem TreeAt.way {M:Store} {d:Nat} (key:Bytes):∀ {k lev:Nat} {id:Int} {lo:Bytes} {hi:Option Bytes} {ps:List Pair} {ids:List Int},TreeAt M d k id lo hi ps ids->(2<=d\/0<lev)->lev+k<30->(ps≠[]\/lev=0) →
  ∃ P lid items,Way M key lev id P lid items/\P.length=k
 | 0,lev,id,lo,hi,ps,ids,⟨items,i2,h1,h2,h3,h4,h5,h6⟩,hd,hl,hp=>by
  refine ⟨[],id,items,.leaf h1 h2 h3 ?_ (by omega),rfl⟩
  rcases hp with hp | hp
  ·refine .inl λ e=>hp ?_
   subst e
   exact h4.1
  ·exact .inr hp
 | k+1,lev,id,lo,hi,ps,ids,⟨c,L,i2,h1,h2,h3,h4,h5,h6,h7⟩,hd,hl,hp=>by
  have hlt:findC key (headKey [] (c :: L))<(headKey [] (c :: L)).length:=findC_lt
  obtain ⟨x,hx⟩:∃ x,(headKey [] (c :: L))[findC key (headKey [] (c :: L))]? = some x:=⟨_,List.getElem?_eq_getElem hlt⟩
  obtain ⟨y,hy,hpg⟩:=headKey_page [] _ _ _ hx
  obtain ⟨h',p',q',ht,hne⟩:=Seg.get h6 hy
  rw [hpg] at ht
  obtain ⟨P,lid,items,hw,hlen⟩:=TreeAt.way (lev:=lev+1) key ht (.inr (by omega)) (by omega) (.inl hne)
  refine ⟨_,lid,items,.branch h1 h2 h3 ?_ (by omega) hx hw,by simp [hlen]⟩
  rcases hd with hd | hd
  ·refine .inl ?_
   simp only [headKey,List.length_cons]
   omega
  ·exact .inr hd
theorem TopAt.way {M:Store} {k:Nat} {root:Int} {ps:List Pair} {ids:List Int} (h:TopAt M k root ps ids) (key:Bytes) (hk:k<30):∃ P lid items,Way M key 0 root P lid items/\P.length=k:=by
 cases k with
 | zero =>
  obtain ⟨items,i2,h1,h2,h3,_⟩:=h.tree
  exact ⟨[],root,items,.leaf h1 h2 h3 (.inr rfl) (by omega),rfl⟩
 | succ k =>
  obtain ⟨c,L,i2,h1,h2,h3,h4,h5,h6,h7⟩:=h.tree
  have hw:2<=(headKey [] (c :: L)).length:=by
   have:=h.wide.resolve_left (by omega)
   rw [kidsAt_of h1 h2 h3] at this
   exact this
  have hlt:findC key (headKey [] (c :: L))<(headKey [] (c :: L)).length:=findC_lt
  obtain ⟨x,hx⟩:∃ x,(headKey [] (c :: L))[findC key (headKey [] (c :: L))]? = some x:=⟨_,List.getElem?_eq_getElem hlt⟩
  obtain ⟨y,hy,hpg⟩:=headKey_page [] _ _ _ hx
  obtain ⟨h',p',q',ht,hne⟩:=Seg.get h6 hy
  rw [hpg] at ht
  obtain ⟨P,lid,items,hw',hlen⟩:=TreeAt.way (lev:=1) key ht (.inr (by omega)) (by omega) (.inl hne)
  exact ⟨_,lid,items,.branch h1 h2 h3 (.inl hw) (by omega) hx hw',by simp [hlen]⟩
open Go.Proofs Go.RowKit
structure CStep where
 v:Value
 at':Nat
 L:List Child
def cstepCs (s:CStep):List Value:=[s.v,.int .i64 s.at']
def cstepsCs:List CStep->List Value
 | []=>[]
 | s :: l=>cstepCs s++cstepsCs l
theorem cstepsCs_snoc (s:CStep):∀ l:List CStep,cstepsCs (l++[s])=cstepsCs l++cstepCs s
 | []=>by simp [cstepsCs]
 | x :: l=>by simp [cstepsCs,cstepsCs_snoc s l]
theorem cstepsCs_len:∀ l:List CStep,(cstepsCs l).length=l.length*2
 | []=>rfl
 | s :: l=>by simp [cstepsCs,cstepCs,cstepsCs_len l];omega
def CStep.ghost (s:CStep):List Child × Nat:=(s.L,s.at')
structure Cc where
 b:Nat
 pv:Value
 iv:Value
def Cc.S (x:Cc) (k:Nat):Prop:=k=x.b\/x.pv.ownBlock=some k
structure CurAt (w:World) (p:Nat) (x:Cc) (root:Int) (st:List CStep) (items:List Item) (at':Int) (on:Bool):Prop where
 blk:Blk w x.b 255 #[ptrV p,.int .i64 root,x.pv,x.iv,.int .i64 at',.bool on,.int .i64 0]
 path:w.ownsRow 0 322 2 x.pv st.length (cstepsCs st)
 kids:∀ s∈st,OwnsC w 0 s.v s.L/\∀ j,s.v.ownBlock=some j->¬ x.S j
 its:OwnsI w 0 x.iv items
 itn:∀ j,x.iv.ownBlock=some j->¬ x.S j
section
variable {w w':World} {p:Nat} {x:Cc} {root:Int} {st:List CStep} {items:List Item} {at':Int} {on:Bool}
theorem CurAt.lt (h:CurAt w p x root st items at' on):∀ k,x.S k->k<w.heap.size:=by
 rintro k (rfl | hk)
 ·exact h.blk.lt
 ·exact (h.path.lt k hk).2
theorem CurAt.keeps {S:Nat->Prop} (h:CurAt w p x root st items at' on) (hk:Keeps S w w') (hs:∀ k,x.S k->¬ S k) (hs2:∀ s∈st,∀ j,s.v.ownBlock=some j->¬ S j) (hs3:∀ j,x.iv.ownBlock=some j->¬ S j):CurAt w' p x root st items at' on:=
 ⟨h.blk.keeps hk (hs _ (.inl rfl)),own_keeps h.path hk λ k e=>hs k (.inr e),λ s hm=>⟨own_keeps (h.kids s hm).1 hk λ k e=>hs2 s hm k e,(h.kids s hm).2⟩,own_keeps h.its hk λ k e=>hs3 k e,h.itn⟩
theorem CurAt.below (h:CurAt w p x root st items at' on) (hb:Below w.heap.size w w'):CurAt w' p x root st items at' on:=
 h.keeps (Keeps.of_below (S:=λ _=>False) hb) (λ _ _ h=>h) (λ _ _ _ _ h=>h) λ _ _ h=>h
structure CurK (x x':Cc) (w w':World):Prop where
 keeps:Keeps x.S w w'
 sub:∀ k,x'.S k->x.S k\/w.heap.size<=k
 same:x'.b=x.b
theorem CurK.refl (x:Cc) (w:World):CurK x x w w:=⟨Keeps.refl _ _,λ _ h=>.inl h,rfl⟩
theorem CurK.trans {x x1 x2:Cc} {w w1 w2:World} (h:CurK x x1 w w1) (k:CurK x1 x2 w1 w2):CurK x x2 w w2:=by
 have hz:=h.keeps.size
 refine ⟨h.keeps.trans k.keeps λ i hi hs=>?_,λ i hs=>?_,k.same.trans h.same⟩
 ·rcases h.sub i hs with h1 | h1
  ·exact h1
  ·omega
 ·rcases k.sub i hs with h1 | h1
  ·exact h.sub i h1
  ·exact .inr (by omega)
theorem CurK.of_below {x:Cc} (h:Below w.heap.size w w'):CurK x x w w':=⟨Keeps.of_below h,λ _ h=>.inl h,rfl⟩
theorem new_any (root:Int) (w:World):Calls Tryz.prog 114 #[ptrV p,.int .i64 root] w λ e w'=>∃ x:Cc,e=.returned (ptrV x.b)/\CurAt w' p x root [] [] 0 false/\(∀ k,x.S k->w.heap.size<=k)/\Below w.heap.size w w':=by
 have hbn:Blk (w.alloc (.cells #[ptrV p,.int .i64 root,.slice none 0 0,.slice none 0 0,.int .i64 0,.bool false,.int .i64 0] 255)) w.heap.size 255 #[ptrV p,.int .i64 root,.slice none 0 0,.slice none 0 0,.int .i64 0,.bool false,.int .i64 0]:=Blk.new _ _ _
 have HB:=Hdz ((Below.refl w.heap.size w).alloc (Nat.le_refl _) (.cells #[ptrV p,.int .i64 root,.slice none 0 0,.slice none 0 0,.int .i64 0,.bool false,.int .i64 0] 255))
 go_enter Tryz.func114,Tryz.ntmps114
 go_wp2_with (fail)
 go_ret
 refine ⟨⟨w.heap.size,.slice none 0 0,.slice none 0 0⟩,rfl,⟨hbn,World.ownsRow_nil _ _ _ _,λ s hs=>absurd hs (by simp),World.ownsRow_nil _ _ _ _,λ j hj=>by cases hj⟩,?_,HB.out⟩
 rintro k (rfl | hk)
 ·exact Nat.le_refl _
 ·cases hk
theorem bad_not (h:CurAt w p x root st items at' on):Calls Tryz.prog 160 #[ptrV x.b] w λ e w'=>e=.returned (.bool false)/\w=w':=by
 have c0:w.cell? ⟨x.b,0,none⟩=some (ptrV p):=h.blk.cell 0
 have c6:w.cell? ⟨x.b,6,none⟩=some (.int .i64 0):=h.blk.cell 6
 clear h
 go_enter Tryz.func160,Tryz.ntmps160
 go_wp2_with (fail)
 go_ret
 exact ⟨rfl,rfl⟩
theorem err_ok (h:CurAt w p x root st items at' on):Calls Tryz.prog 118 #[ptrV x.b] w λ e w'=>e=.returned (.int .i64 0)/\w=w':=by
 have c0:w.cell? ⟨x.b,0,none⟩=some (ptrV p):=h.blk.cell 0
 have c6:w.cell? ⟨x.b,6,none⟩=some (.int .i64 0):=h.blk.cell 6
 clear h
 go_enter Tryz.func118,Tryz.ntmps118
 go_wp2_with (fail)
 go_ret
 exact ⟨rfl,rfl⟩
def ResetP (p:Nat) (x:Cc) (root:Int) (w:World) (v:Value) (e:Ending) (w':World):Prop:=
 e=.returned v/\CurAt w' p ⟨x.b,.slice none 0 0,.slice none 0 0⟩ root [] [] 0 false/\CurK x ⟨x.b,.slice none 0 0,.slice none 0 0⟩ w w'
theorem reset_ok (h:CurAt w p x root st items at' on):Calls Tryz.prog 161 #[ptrV x.b] w (ResetP p x root w (.tuple #[])):=by
 obtain ⟨b,pv,iv⟩:=x
 have hb:=h.blk
 simp only at hb
 obtain ⟨A1,d1,rfl,_⟩:=Sl.of_own h.path
 obtain ⟨A2,d2,rfl,_⟩:=Sl.of_own h.its
 have c2:w.cell? ⟨b,2,none⟩=_:=hb.cell 2
 have f2:=hb.frozen 2
 have c3:w.cell? ⟨b,3,none⟩=_:=hb.cell 3
 have f3:=hb.frozen 3
 have c4:w.cell? ⟨b,4,none⟩=_:=hb.cell 4
 have f4:=hb.frozen 4
 have c5:w.cell? ⟨b,5,none⟩=_:=hb.cell 5
 have f5:=hb.frozen 5
 have HE:Hid (ResetP p ⟨b,.slice A1 st.length d1,.slice A2 items.length d2⟩ root w (.tuple #[]) (.returned (.tuple #[])) ((((w.setCell ⟨b,2,none⟩ (.slice none 0 0)).setCell ⟨b,3,none⟩ (.slice none 0 0)).setCell ⟨b,4,none⟩ (.int .i64 0)).setCell ⟨b,5,none⟩ (.bool false))):=by
  refine ⟨rfl,⟨(((hb.set 2 _).set 3 _).set 4 _).set 5 _,World.ownsRow_nil _ _ _ _,λ s hs=>absurd hs (by simp),World.ownsRow_nil _ _ _ _,λ j hj=>by cases hj⟩,?_,?_,rfl⟩
  ·exact ((((Keeps.refl _ w).setCell (p:=⟨b,2,none⟩) (λ _=>.inl rfl) _).setCell (p:=⟨b,3,none⟩) (λ _=>.inl rfl) _).setCell (p:=⟨b,4,none⟩) (λ _=>.inl rfl) _).setCell (p:=⟨b,5,none⟩) (λ _=>.inl rfl) _
  ·rintro k (rfl | hk)
   ·exact .inl (.inl rfl)
   ·cases hk
 clear hb h
 go_enter Tryz.func161,Tryz.ntmps161
 go_wp2_with (fail)
 go_end0
 exact HE.out
def StandP (p:Nat) (x:Cc) (root:Int) (st:List CStep) (items:List Item) (k:Nat) (w:World) (e:Ending) (w':World):Prop:=
 e=.returned (.bool true)/\CurAt w' p x root st items k true/\CurK x x w w'
theorem stand_ok (h:CurAt w p x root st items at' on) (k:Nat) (hk:k<items.length):Calls Tryz.prog 165 #[ptrV x.b,.int .i64 (k:Int)] w (StandP p x root st items k w):=by
 obtain ⟨b,pv,iv⟩:=x
 have hb:=h.blk
 simp only at hb
 obtain ⟨A2,cc,rfl,_⟩:=Sl.of_own h.its
 have c3:w.cell? ⟨b,3,none⟩=_:=hb.cell 3
 have c4:w.cell? ⟨b,4,none⟩=_:=hb.cell 4
 have f4:=hb.frozen 4
 have c5:w.cell? ⟨b,5,none⟩=_:=hb.cell 5
 have f5:=hb.frozen 5
 have h1:¬ (k:Int)<0:=by omega
 have h2:¬ (items.length:Int)<=(k:Int):=by omega
 have HE:Hid (StandP p ⟨b,pv,.slice A2 items.length cc⟩ root st items k w (.returned (.bool true)) ((w.setCell ⟨b,4,none⟩ (.int .i64 (k:Int))).setCell ⟨b,5,none⟩ (.bool true))):=by
  have hK:Keeps (λ j=>j=b) w ((w.setCell ⟨b,4,none⟩ (.int .i64 (k:Int))).setCell ⟨b,5,none⟩ (.bool true)):=((Keeps.refl (λ j=>j=b) w).setCell (p:=⟨b,4,none⟩) (λ _=>rfl) _).setCell (p:=⟨b,5,none⟩) (λ _=>rfl) _
  refine ⟨rfl,⟨(hb.set 4 _).set 5 _,own_keeps h.path hK ?_,λ s hs=>⟨own_keeps (h.kids s hs).1 hK ?_,(h.kids s hs).2⟩,own_keeps h.its hK ?_,h.itn⟩,hK.mono λ _ _ e=>.inl e,λ _ h=>.inl h,rfl⟩
  ·exact own_ne h.path hb (by decide)
  ·exact λ j hj e=>(h.kids s hs).2 j hj (.inl e)
  ·exact λ j hj e=>h.itn j hj (.inl e)
 clear hb h hk
 go_enter Tryz.func165,Tryz.ntmps165
 go_wp2_with (fail)
 go_ret
 exact HE.out
end
theorem infoCStep:(Tryz.prog.info? 322).map (λ i=>(i.zero,i.size,i.bytes))=some (some (.agg #[.slice none 0 0,.int .i64 0]),2,32):=by kernel_rfl
section
variable {p most cnt:Nat} {c:Pc} {M:Store} {all:List Pair} {x:Cc} {root:Int} {w:World}
theorem row_newS2 (w:World) (u v:Value) (t:TypeId):∀ (j:Nat) (z:Value),[u,v][j]? = some z->(w.alloc (.cells #[u,v] t)).drew.cell? ((⟨w.heap.size,0,none⟩:Addr).add j)=some z:=by
 intro j z hz
 have hb:Blk (w.alloc (.cells #[u,v] t)) w.heap.size t #[u,v]:=Blk.new _ _ _
 rw [addr_add,Nat.zero_add]
 match j with
 | 0=>simp at hz;subst hz;exact hb.cell 0
 | 1=>simp at hz;subst hz;exact hb.cell 1
 | j+2=>simp at hz
theorem cur_push {w4:World} {x:Cc} {st:List CStep} {items:List Item} {at':Int} {on:Bool} (h:CurAt w p x root st items at' on) (s:CStep) (hs:OwnsC w 0 s.v s.L) (hsn:∀ j,s.v.ownBlock=some j->¬ x.S j) {v4:Value} (hg:w.grownBy w4 x.pv.ownBlock)
  (own4:w4.ownsRow 0 322 2 v4 (st.length+1) (cstepsCs st++cstepCs s)) (hw4:∀ k,v4.ownBlock=some k->x.pv.ownBlock=some k\/w.heap.size<=k) :
  CurAt (w4.setCell ⟨x.b,2,none⟩ v4) p ⟨x.b,v4,x.iv⟩ root (st++[s]) items at' on/\CurK x ⟨x.b,v4,x.iv⟩ w (w4.setCell ⟨x.b,2,none⟩ v4):=by
 have K1:Keeps (λ k=>x.pv.ownBlock=some k) w w4:=(Keeps.refl (λ k=>x.pv.ownBlock=some k) _).grown hg (λ k hk _=>hk)
 have hpb:∀ k,x.pv.ownBlock=some k->k≠x.b:=own_ne h.path h.blk (by decide)
 have b1:=h.blk.keeps K1 (λ e=>hpb _ e rfl)
 have K2:Keeps x.S w (w4.setCell ⟨x.b,2,none⟩ v4):=(K1.mono λ _ _ h=>.inr h).setCell (λ _=>.inl rfl) v4
 have hvb:∀ k,v4.ownBlock=some k->k≠x.b:=own_ne own4 b1 (by decide)
 have hnew:∀ j,j<w.heap.size->¬ x.S j->¬ (⟨x.b,v4,x.iv⟩:Cc).S j:=by
  rintro j hj hn (e | e)
  ·exact hn (.inl e)
  ·rcases hw4 j e with e | e
   ·exact hn (.inr e)
   ·omega
 refine ⟨⟨b1.set 2 v4,?_,λ s' hs'=>?_,own_keeps h.its K2 λ j hj e=>h.itn j hj e,λ j hj=>hnew j (h.its.lt j hj).2 (h.itn j hj)⟩,K2,?_,rfl⟩
 ·rw [List.length_append,cstepsCs_snoc]
  exact own_keeps (S:=λ k=>k=x.b) own4 ((Keeps.refl (λ k=>k=x.b) _).setCell (p:=⟨x.b,2,none⟩) (λ _=>rfl) v4) hvb
 ·rcases List.mem_append.1 hs' with hm | hm
  ·exact ⟨own_keeps (h.kids s' hm).1 K2 λ j hj e=>(h.kids s' hm).2 j hj e,λ j hj=>hnew j ((h.kids s' hm).1.lt j hj).2 ((h.kids s' hm).2 j hj)⟩
  ·rw [List.mem_singleton.1 hm]
   exact ⟨own_keeps hs K2 λ j hj e=>hsn j hj e,λ j hj=>hnew j (hs.lt j hj).2 (hsn j hj)⟩
 ·rintro k (e | e)
  ·exact .inl (.inl e)
  ·rcases hw4 k e with e | e
   ·exact .inl (.inr e)
   ·exact .inr e
def Picks (M:Store) (all:List Pair) (f:List Child->Nat) (Q:Bytes->Option Bytes->List Pair->Nat->Prop):Prop:=
 ∀ (L:List Child) (lo:Bytes) (hi:Option Bytes) (ps:List Pair) (off:Nat) (lo':Bytes) (hi':Option Bytes) (ps':List Pair) (off':Nat),L≠[]->(f L=0->off'=off)->(f L+1=L.length->off'+ps'.length=off+ps.length)->(∀ key,inR lo hi key->f L=findC key L->inR lo' hi' key)->Q lo hi ps off->Q lo' hi' ps' off'
def DownP (M:Store) (all:List Pair) (p:Nat) (x:Cc) (root:Int) (at':Int) (on:Bool) (Q:Bytes->Option Bytes->List Pair->Nat->Prop) (w:World) (e:Ending) (w':World):Prop:=
 ∃ x' st items lo hi ps off lid,e=.returned (.bool true)/\CurAt w' p x' root st items at' on/\CurK x x' w w'/\Zip M 1 all 0 lid lo hi ps off (st.map CStep.ghost)/\(∃ i2,LeafAt M items ps i2)/\riseI items=true/\(layI items).length<=240/\(st≠[]->items≠[])/\Q lo hi ps off
theorem down_ok (pf:FuncId) (cap:Array Value) (f:List Child->Nat) (Q:Bytes->Option Bytes->List Pair->Nat->Prop) (eg:∀ args w,(callFunc pf args).run Tryz.prog w=.ok (.enter pf args) w) (hf:∀ L,L≠[]->f L<L.length)
  (hpick:∀ W A n d L,Keeps x.S w W->OwnsC W 0 (.slice A n d) L->rightC L=true->L.length=n->n<=120->Calls Tryz.prog pf (#[.slice A n d]++cap) W λ e w'=>e=.returned (.int .i64 (f L:Int))/\Below W.heap.size W w') (hQ:Picks M all f Q)
  (k:Nat) (id:Int) (lo:Bytes) (hi:Option Bytes) (ps:List Pair) (off:Nat) (st:List CStep) (items:List Item) (at':Int) (on:Bool) (h:PgOk w p c most M cnt) (hc:CurAt w p x root st items at' on) (hn:∀ j,c.S p j->¬ x.S j) (hz:Zip M 1 all k id lo hi ps off (st.map CStep.ghost))
  (hh:k+st.length<30) (hq:Q lo hi ps off) :
  Calls Tryz.prog 162 #[ptrV x.b,.int .i64 id,.func (.func pf) #[] cap] w (DownP M all p x root at' on Q w):=by
 obtain ⟨i0,hi0,hz0,hz1,hz2⟩:=info_parts infoCStep
 go_enter Tryz.func162,Tryz.ntmps162
 go_wp2_with (fail)
 go_loopg [1] k (λ gk s1 wr=>∃ x1 st1 id1 lo1 hi1 ps1 off1,s1=.int .i64 id1/\CurAt wr p x1 root st1 items at' on/\CurK x x1 w wr/\Hid (Zip M 1 all gk id1 lo1 hi1 ps1 off1 (st1.map CStep.ghost))/\gk+st1.length<30/\Hid (Q lo1 hi1 ps1 off1))
 case atStart=>exact ⟨x,st,id,lo,hi,ps,off,rfl,hc,CurK.refl _ _,hz,hh,hq⟩
 case round =>
  obtain ⟨x1,st1,id1,lo1,hi1,ps1,off1,rfl,hc1,hk1,hzz,hh1,hq1⟩:=hrel
  have hzip:=hzz.out
  have hpgr:PgOk wr p c most M cnt:=h.keeps hk1.keeps hn
  have hszr:=hk1.keeps.size
  rcases x1 with ⟨xb,xpv,xiv⟩
  have hxb:xb=x.b:=hk1.same
  subst hxb
  have hpath:=hc1.path
  simp only at hpath
  obtain ⟨Ap,dp,rfl,_⟩:=Sl.of_own hpath
  have hits:=hc1.its
  unfold OwnsI at hits
  simp only at hits
  obtain ⟨Ai,di,rfl,_⟩:=Sl.of_own hits
  have c0:wr.cell? ⟨x.b,0,none⟩=some (ptrV p):=hc1.blk.cell 0
  have c2:wr.cell? ⟨x.b,2,none⟩=some (.slice Ap st1.length dp):=hc1.blk.cell 2
  have hl30:st1.length<30:=by omega
  cases gk with
  | zero =>
   obtain ⟨its,i2,hm,hr,hs,hla,hne⟩:=hzip.leaf
   have hne2:its≠[]\/st1.length=0:=by
    by_cases h0:st1.length=0
    ·exact .inr h0
    ·refine .inl (hne λ e=>h0 ?_)
     have:=congrArg List.length e
     simpa using this
   have HX:=Hdz (λ W (hb:Below wr.heap.size wr W)=>load_leaf id1 st1.length its W (hpgr.below hb) hm hr hs hl30 hne2)
   have HC:=Hdz (Anz hc1 (Anz hk1 (Anz hzip (Anz hq1.out (Anz hla (Anz hr (Anz hs hne)))))))
   clear hc1 hk1 hzip hzz hq1 hla hr hs hne hne2 hm hpgr hpath hits hz h hpick hQ hf hc hq
   go_wp2_with (fail)
   refine wRz ?_
   refine any_only (T:=λ a W=>∃ nb B d,W.ownsRow wr.heap.size 223 4 (.slice B its.length d) its.length (itemsCs its)/\Below wr.heap.size wr W/\Blk W nb 285 #[.bool true,.slice B its.length d,.slice none 0 0]/\wr.heap.size<=nb/\a={ tmps:=#[ptrV x.b,.int .i64 id1,.func (.func pf) #[] cap,undef,undef,undef,u6,ptrV nb,.int .i64 0,u9,.tuple #[.agg #[.bool true,.slice B its.length d,.slice none 0 0],.int .i64 0],ptrV x.b,ptrV x.b,ptrV x.b,ptrV p,.int .i64 id1,ptrV x.b,ptrV x.b,.pointer (some ⟨x.b,2,none⟩),.slice Ap st1.length dp,.int .i64 (st1.length:Int),.tuple #[.agg #[.bool true,.slice B its.length d,.slice none 0 0],.int .i64 0],.agg #[.bool true,.slice B its.length d,.slice none 0 0],.int .i64 0,u24,u25,u26,u27,u28,u29,u30,u31,u32,u33,u34,u35,u36,u37,u38,u39,u40,u41,u42,u43,u44,u45,u46,u47,u48,u49,u50,u51,u52,u53,u54,u55,u56,u57,u58],defers:=[] }) ?hT _ _ _ _ ?hA
   case hA =>
    try simp only [lAz]
    refine tA 0 ?_;try simp only [lAz]
    refine tA 1 ?_;try simp only [lAz]
    refine tA 2 ?_;try simp only [lAz]
    refine tA 4 ?_;try simp only [lAz]
    refine tA 5 ?_;try simp only [lAz]
    refine tA 6 ?_;try simp only [lAz]
    refine tA 7 ?_;try simp only [lAz]
    refine rA 8 (v:=?_) (hy:=?hy) ?_;case hy=>(intro w hE;have q0:=hE.cell c2;go_simp;try with_reducible rfl)
    try simp only [lAz]
    refine tA 9 ?_;try simp only [lAz]
    refine rA 3 (v:=?_) (hy:=?hy) ?_;case hy=>(intro w hE;have q0:=hE.cell c0;go_simp;try with_reducible rfl)
    try simp only [lAz]
    refine wpAny_ready (rs:=[10,14]) (by kernel_rfl) (by simp) (aCz (λ K hK=>?_) (aCz (λ K hK=>?_) AllReady.nil))
    ·go_simp
     go_must (refine (HX.out wr.drew (Below.refl _ wr).drew).mono ?_)
     rintro e w1 ⟨v,rfl,hIt,hb1⟩
     have hz1:=hb1.size
     obtain ⟨B,d,rfl,_⟩:=Sl.of_own hIt
     have HI:=Hdz (Anz hIt hb1)
     clear hIt hb1
     go_simp
     apply hK
     clear hK K
     try simp only [lAz]
     refine tA 11 ?_;try simp only [lAz]
     refine tA 12 ?_;try simp only [lAz]
     refine tA 13 ?_;try simp only [lAz]
     refine rZz 14 λ K hK=>?_;go_simp;apply hK;clear hK K
     refine rZz 15 λ K hK=>?_;go_simp;apply hK;clear hK K
     refine rZz 16 λ K hK=>?_;go_simp;apply hK;clear hK K
     refine wDz ?_
     exact ⟨_,B,d,HI.out.1.alloc _,(((Below.refl wr.heap.size wr).drew).trans HI.out.2).alloc hz1 _,Blk.new _ _ _,hz1,rfl⟩
    ·go_simp
     apply hK
     clear hK K
     refine rZz 10 λ K hK=>?_;go_simp
     (go_must (refine (HX.out _ (((Below.refl wr.heap.size wr).drew).alloc (Nat.le_refl _) _)).mono ?_);rintro e w1 ⟨v,rfl,hIt,hb1⟩)
     have hz1:=hb1.size
     simp at hz1
     obtain ⟨B,d,rfl,_⟩:=Sl.of_own hIt
     have bn:Blk w1 wr.heap.size 285 #[.bool false,.slice none 0 0,.slice none 0 0]:=Blk.below' (Blk.new wr.drew _ _) hb1
     obtain ⟨k0,k1,k2,f0,f1,f2,hbn⟩:=node_box bn (.bool true) (.slice B its.length d) (.slice none 0 0)
     have hK:=node_keeps w1 wr.heap.size (.bool true) (.slice B its.length d) (.slice none 0 0)
     have HI:=Hdz (Anz hIt (Anz hb1 (Anz hbn hK)))
     clear hIt hb1 hbn hK bn
     go_simp
     apply hK
     clear hK K
     try simp only [lAz]
     refine tA 11 ?_;try simp only [lAz]
     refine tA 12 ?_;try simp only [lAz]
     refine tA 13 ?_;try simp only [lAz]
     refine rZz 15 λ K hK=>?_;go_simp;apply hK;clear hK K
     refine rZz 16 λ K hK=>?_;go_simp;apply hK;clear hK K
     refine wDz ?_
     obtain ⟨hIt,hb1,hbn,hK⟩:=HI.out
     refine ⟨wr.heap.size,B,d,own_base (own_keeps hIt hK λ j hj e=>?_) ?_,(((((Below.refl wr.heap.size wr).drew).alloc (Nat.le_refl _) _).trans (hb1.mono ?_)).trans (hK.below ?_ λ i hi e=>?_)),hbn,Nat.le_refl _,rfl⟩
     ·have:=(hIt.lt j hj).1;simp at this;omega
     ·simp
     ·simp
     ·omega
     ·omega
   case hT =>
    rintro a W ⟨nb,B,d,hIt,hbW,hbn,hnb,rfl⟩
    dsimp only
    obtain ⟨hc1,hk1,hzip,hq1,hla,hr,hs,hne⟩:=HC.out
    have n0:W.cell? ⟨nb,0,none⟩=some (.bool true):=hbn.cell 0
    have n1:W.cell? ⟨nb,1,none⟩=some (.slice B its.length d):=hbn.cell 1
    have hcW:=hc1.below hbW
    have b3:W.cell? ⟨x.b,3,none⟩=some (.slice Ai items.length di):=hcW.blk.cell 3
    have f3:=hcW.blk.frozen 3
    have HE:Hid (DownP M all p x root at' on Q w (.returned (.bool true)) (W.setCell ⟨x.b,3,none⟩ (.slice B its.length d))):=by
     have K:=(Keeps.refl (λ j=>j=x.b) W).setCell (p:=⟨x.b,3,none⟩) (λ _=>rfl) (.slice B its.length d)
     have hclt:=hc1.lt
     refine ⟨⟨x.b,.slice Ap st1.length dp,.slice B its.length d⟩,st1,its,lo1,hi1,ps1,off1,id1,rfl,⟨hcW.blk.set 3 _,own_keeps hcW.path K (own_ne hcW.path hcW.blk (by decide)),λ s hs'=>⟨own_keeps (hcW.kids s hs').1 K λ j hj e=>(hcW.kids s hs').2 j hj (.inl e),λ j hj=>(hcW.kids s hs').2 j hj⟩,?_,?_⟩,?_,hzip,⟨_,hla⟩,hr,hs,λ hst=>hne (by simpa using hst),hq1⟩
     ·exact own_base (own_keeps hIt K λ j hj e=>by have:=(hIt.lt j hj).1;have:=hclt x.b (.inl rfl);omega) (Nat.zero_le _)
     ·rintro j hj (e | e)
      ·have:=(hIt.lt j hj).1;have:=hclt x.b (.inl rfl);simp only at e;omega
      ·have:=(hIt.lt j hj).1;have:=hclt j (.inr e);omega
     ·have h5:=hk1.trans (CurK.of_below hbW)
      exact ⟨h5.keeps.trans K λ i _ e=>.inl e,h5.sub,rfl⟩
    clear hc1 hk1 hzip hq1 hla hr hs hne hcW hbW hIt hbn
    go_wp2_with (fail)
    go_ret
    exact HE.out
  | succ gk =>
   obtain ⟨L,hm,hr,hs,hd2,hch⟩:=hzip.child
   have hLl:=layC_len L
   have hLne:L≠[]:=by rintro rfl;simp at hd2
   have hwd:2<=L.length\/0<st1.length:=by
    by_cases h0:st1=[]
    ·have:=hzip.wide (by rw [h0];rfl)
     rw [kidsAt_of hm hr hs] at this
     exact .inl (by omega)
    ·exact .inr (List.length_pos_iff.2 h0)
   have HX:=Hdz (λ W (hb:Below wr.heap.size wr W)=>load_branch id1 st1.length L W (hpgr.below hb) hm hr hs hl30 hwd)
   have HC:=Hdz (Anz hc1 (Anz hk1 (Anz hzip (Anz hq1.out (Anz hch hr)))))
   clear hc1 hk1 hzip hzz hq1 hch hr hm hpgr hpath hits hz h hc hq
   go_wp2_with (fail)
   refine wRz ?_
   refine any_only (T:=λ a W=>∃ nb B d,W.ownsRow wr.heap.size 291 2 (.slice B L.length d) L.length (childrenCs L)/\Below wr.heap.size wr W/\Blk W nb 285 #[.bool false,.slice none 0 0,.slice B L.length d]/\wr.heap.size<=nb/\a={ tmps:=#[ptrV x.b,.int .i64 id1,.func (.func pf) #[] cap,undef,undef,undef,u6,ptrV nb,.int .i64 0,u9,.tuple #[.agg #[.bool false,.slice none 0 0,.slice B L.length d],.int .i64 0],ptrV x.b,ptrV x.b,ptrV x.b,ptrV p,.int .i64 id1,ptrV x.b,ptrV x.b,.pointer (some ⟨x.b,2,none⟩),.slice Ap st1.length dp,.int .i64 (st1.length:Int),.tuple #[.agg #[.bool false,.slice none 0 0,.slice B L.length d],.int .i64 0],.agg #[.bool false,.slice none 0 0,.slice B L.length d],.int .i64 0,u24,u25,u26,u27,u28,u29,u30,u31,u32,u33,u34,u35,u36,u37,u38,u39,u40,u41,u42,u43,u44,u45,u46,u47,u48,u49,u50,u51,u52,u53,u54,u55,u56,u57,u58],defers:=[] }) ?hT _ _ _ _ ?hA
   case hA =>
    try simp only [lAz]
    refine tA 0 ?_;try simp only [lAz]
    refine tA 1 ?_;try simp only [lAz]
    refine tA 2 ?_;try simp only [lAz]
    refine tA 4 ?_;try simp only [lAz]
    refine tA 5 ?_;try simp only [lAz]
    refine tA 6 ?_;try simp only [lAz]
    refine tA 7 ?_;try simp only [lAz]
    refine rA 8 (v:=?_) (hy:=?hy) ?_;case hy=>(intro w hE;have q0:=hE.cell c2;go_simp;try with_reducible rfl)
    try simp only [lAz]
    refine tA 9 ?_;try simp only [lAz]
    refine rA 3 (v:=?_) (hy:=?hy) ?_;case hy=>(intro w hE;have q0:=hE.cell c0;go_simp;try with_reducible rfl)
    try simp only [lAz]
    refine wpAny_ready (rs:=[10,14]) (by kernel_rfl) (by simp) (aCz (λ K hK=>?_) (aCz (λ K hK=>?_) AllReady.nil))
    ·go_simp
     go_must (refine (HX.out wr.drew (Below.refl _ wr).drew).mono ?_)
     rintro e w1 ⟨v,rfl,hIt,hb1⟩
     have hz1:=hb1.size
     obtain ⟨B,d,rfl,_⟩:=Sl.of_own hIt
     have HI:=Hdz (Anz hIt hb1)
     clear hIt hb1
     go_simp
     apply hK
     clear hK K
     try simp only [lAz]
     refine tA 11 ?_;try simp only [lAz]
     refine tA 12 ?_;try simp only [lAz]
     refine tA 13 ?_;try simp only [lAz]
     refine rZz 14 λ K hK=>?_;go_simp;apply hK;clear hK K
     refine rZz 15 λ K hK=>?_;go_simp;apply hK;clear hK K
     refine rZz 16 λ K hK=>?_;go_simp;apply hK;clear hK K
     refine wDz ?_
     exact ⟨_,B,d,HI.out.1.alloc _,(((Below.refl wr.heap.size wr).drew).trans HI.out.2).alloc hz1 _,Blk.new _ _ _,hz1,rfl⟩
    ·go_simp
     apply hK
     clear hK K
     refine rZz 10 λ K hK=>?_;go_simp
     (go_must (refine (HX.out _ (((Below.refl wr.heap.size wr).drew).alloc (Nat.le_refl _) _)).mono ?_);rintro e w1 ⟨v,rfl,hIt,hb1⟩)
     have hz1:=hb1.size
     simp at hz1
     obtain ⟨B,d,rfl,_⟩:=Sl.of_own hIt
     have bn:Blk w1 wr.heap.size 285 #[.bool false,.slice none 0 0,.slice none 0 0]:=Blk.below' (Blk.new wr.drew _ _) hb1
     obtain ⟨k0,k1,k2,f0,f1,f2,hbn⟩:=node_box bn (.bool false) (.slice none 0 0) (.slice B L.length d)
     have hK:=node_keeps w1 wr.heap.size (.bool false) (.slice none 0 0) (.slice B L.length d)
     have HI:=Hdz (Anz hIt (Anz hb1 (Anz hbn hK)))
     clear hIt hb1 hbn hK bn
     go_simp
     apply hK
     clear hK K
     try simp only [lAz]
     refine tA 11 ?_;try simp only [lAz]
     refine tA 12 ?_;try simp only [lAz]
     refine tA 13 ?_;try simp only [lAz]
     refine rZz 15 λ K hK=>?_;go_simp;apply hK;clear hK K
     refine rZz 16 λ K hK=>?_;go_simp;apply hK;clear hK K
     refine wDz ?_
     obtain ⟨hIt,hb1,hbn,hK⟩:=HI.out
     refine ⟨wr.heap.size,B,d,own_base (own_keeps hIt hK λ j hj e=>?_) ?_,(((((Below.refl wr.heap.size wr).drew).alloc (Nat.le_refl _) _).trans (hb1.mono ?_)).trans (hK.below ?_ λ i hi e=>?_)),hbn,Nat.le_refl _,rfl⟩
     ·have:=(hIt.lt j hj).1;simp at this;omega
     ·simp
     ·simp
     ·omega
     ·omega
   case hT =>
    rintro a W ⟨nb,B,d,hIt,hbW,hbn,hnb,rfl⟩
    dsimp only
    obtain ⟨hc1,hk1,hzip,hq1,hch,hr⟩:=HC.out
    have n0:W.cell? ⟨nb,0,none⟩=some (.bool false):=hbn.cell 0
    have n2:W.cell? ⟨nb,2,none⟩=some (.slice B L.length d):=hbn.cell 2
    have hcW:=hc1.below hbW
    have hkW:=hk1.trans (CurK.of_below hbW)
    have hPick:=hpick W B L.length d L hkW.keeps (own_base hIt (Nat.zero_le _)) hr rfl (by omega)
    have HPick:=Hdz hPick
    have HW:=Hdz (Anz hcW (Anz hkW (Anz hIt (Anz hbn hbW))))
    clear hc1 hk1 hzip hq1 hch hr hcW hkW hPick hIt hbn hbW
    go_wp2_with (fail)
    go_must (refine HPick.out.mono ?_)
    rintro e w2 ⟨rfl,hb2⟩
    obtain ⟨hcW,hkW,hIt,hbn,hbW⟩:=HW.out
    have hc2:=hcW.below hb2
    have hIt2:=own_below hIt hb2
    have hbn2:=Blk.below' hbn hb2
    have d2:w2.cell? ⟨nb,2,none⟩=some (.slice B L.length d):=hbn2.cell 2
    have e2:w2.cell? ⟨x.b,2,none⟩=some (.slice Ap st1.length dp):=hc2.blk.cell 2
    have hm1:st1.length+1<=maxLen:=by unfold maxLen;omega
    have hlt2:x.b<w2.heap.size:=hc2.blk.lt
    have hOP:=(hc2.path.alloc (.cells #[.slice B L.length d,.int .i64 (f L:Int)] 322))
    have HOP:=Hdz hOP
    have hbd:=((Below.refl w2.heap.size w2).alloc (Nat.le_refl _) (.cells #[.slice B L.length d,.int .i64 (f L:Int)] 322)).drew
    have hc2d:=hc2.below hbd
    have hS1:∀ j,(Value.slice B L.length d).ownBlock=some j->¬ (⟨x.b,.slice Ap st1.length dp,.slice Ai items.length di⟩:Cc).S j:=λ j hj e=>by
     obtain ⟨hc1,_⟩:=HC.out
     have:=hc1.lt j e
     have:=(hIt.lt j hj).1
     omega
    have hcp:=λ v4 w4 r1 r2 r3=>cur_push (w4:=w4) (v4:=v4) hc2d ⟨.slice B L.length d,f L,L⟩ (own_below (own_base hIt2 (Nat.zero_le _)) hbd) hS1 r1 r2 r3
    have hbg:∀ w4,(w2.alloc (.cells #[.slice B L.length d,.int .i64 (f L:Int)] 322)).drew.grownBy w4 (Value.slice Ap st1.length dp).ownBlock->w4.cell? ⟨x.b,2,none⟩=some (.slice Ap st1.length dp)/\w4.frozen? ⟨x.b,2,none⟩=false:=λ w4 hg=>by
     have b1:=hc2d.blk.keeps ((Keeps.refl (λ k=>(Value.slice Ap st1.length dp).ownBlock=some k) _).grown hg (λ k hk _=>hk)) (λ e=>own_ne hc2d.path hc2d.blk (by decide) _ e rfl)
     exact ⟨b1.cell 2,b1.frozen 2⟩
    have HCP:=Hdz hcp
    have HBG:=Hdz hbg
    have HB2:=Hdz (Anz hb2 (Anz hbn2 (Anz hIt2 hbd)))
    clear hcW hkW hIt hbn hbW hc2 hIt2 hbn2 hOP hc2d hS1 hcp hbg hb2 hbd
    go_wp2_with (fail)
    refine wRz ?_
    try simp only [lAz]
    refine tA 0 ?_;try simp only [lAz]
    refine tA 1 ?_;try simp only [lAz]
    refine tA 2 ?_;try simp only [lAz]
    refine tA 3 ?_;try simp only [lAz]
    refine tA 5 ?_;try simp only [lAz]
    refine tA 7 ?_;try simp only [lAz]
    refine rA 6 (v:=?_) (hy:=?hy) ?_;case hy=>(intro w hE;have q0:=hE.cell d2;go_simp;try with_reducible rfl)
    try simp only [lAz]
    refine tA 8 ?_;try simp only [lAz]
    refine rA 4 (v:=?_) (hy:=?hy) ?_;case hy=>(intro w hE;have q0:=hE.cell e2;go_simp;try with_reducible rfl)
    try simp only [lAz]
    refine rZz 9 λ K hK=>?_;go_simp;apply hK;clear hK K
    refine rZz 10 λ K hK=>?_;refine if_on rfl ?_
    go_must (refine wp_append_at _ _ 253 rfl 0 322 i0 _ 2 32 Tryz.underlying253 hi0 hz0 hz1 hz2 rfl (by decide) _ st1.length (cstepsCs st1) rfl HOP.out ⟨w2.heap.size,0,none⟩ 1 1 [.slice B L.length d,.int .i64 (f L:Int)] rfl rfl ?_ (by simp [Value.oneCell']) hm1 (by omega) (Nat.zero_le _) ?_)
    ·exact row_newS2 _ _ _ _
    intro v4 w4 own4 hg4 hw4
    obtain ⟨r1,r2⟩:=HBG.out w4 hg4
    obtain ⟨q1,q2⟩:=HCP.out v4 w4 hg4 own4 hw4
    obtain ⟨A4,d4,rfl,_⟩:=Sl.of_own own4
    have HQ:=Hdz (Anz q1 q2)
    clear own4 hg4 hw4 q1 q2
    go_simp
    apply hK
    clear hK K
    try simp only [lAz]
    refine tA 11 ?_;try simp only [lAz]
    refine tA 12 ?_;try simp only [lAz]
    refine rZz 13 λ K hK=>?_;go_simp;apply hK;clear hK K
    refine wDz ?_
    obtain ⟨q1,q2⟩:=HQ.out
    obtain ⟨hc1,hk1,hzip,hq1,hch,hr⟩:=HC.out
    obtain ⟨hcW,hkW,hIt,hbn,hbW⟩:=HW.out
    obtain ⟨hb2,hbn2,hIt2,hbd⟩:=HB2.out
    have hfl:=hf L hLne
    obtain ⟨y,hy⟩:∃ y,L[f L]? = some y:=⟨_,List.getElem?_eq_getElem hfl⟩
    obtain ⟨lo',hi',ps',off',hz',t1,t2,t3⟩:=hch (f L) y hy
    have hltc:=hc1.lt
    have hnS:∀ j,wr.heap.size<=j->¬ (⟨x.b,.slice Ap st1.length dp,.slice Ai items.length di⟩:Cc).S j:=λ j hj e=>by have:=hltc j e;omega
    have hbn5:=(Blk.below' hbn2 hbd).keeps q2.keeps (hnS _ hnb)
    have hIt5:=own_keeps (own_below hIt2 hbd) q2.keeps (λ j hj=>hnS j (hIt2.lt j hj).1)
    have e5:(w4.setCell ⟨x.b,2,none⟩ (.slice A4 (st1.length+1) d4)).cell? ⟨nb,2,none⟩=some (.slice B L.length d):=hbn5.cell 2
    obtain ⟨_,_,e0,_,_,hcl⟩:=Sl.of_own hIt5
    cases e0
    obtain ⟨blk,o,rfl,hbl,hcell⟩:=hcl (by omega)
    have hpg:(w4.setCell ⟨x.b,2,none⟩ (.slice A4 (st1.length+1) d4)).cell? ⟨blk,o+f L*2+1,none⟩=some (.int .i64 y.page):=by
     have h1:=childrenCs_at L (f L) 1 hfl (by omega)
     rw [List.getElem?_eq_getElem hfl,Option.some.injEq] at hy
     rw [hy] at h1
     have h2:=hcell _ _ (h1.trans rfl)
     rw [<- Nat.add_assoc] at h2
     exact h2
    have h0f:(0:Int)<=(f L:Int):=by omega
    have h1f:(f L:Int)<(L.length:Int):=by omega
    have HE:Hid (∃ x1 st2 id2 lo2 hi2 ps2 off2,(Value.int .i64 y.page)=.int .i64 id2/\CurAt (w4.setCell ⟨x.b,2,none⟩ (.slice A4 (st1.length+1) d4)) p x1 root st2 items at' on/\CurK x x1 w (w4.setCell ⟨x.b,2,none⟩ (.slice A4 (st1.length+1) d4))/\Hid (Zip M 1 all gk id2 lo2 hi2 ps2 off2 (st2.map CStep.ghost))/\gk+st2.length<30/\Hid (Q lo2 hi2 ps2 off2)):=by
     refine ⟨_,_,y.page,lo',hi',ps',off',rfl,q1,((hkW.trans (CurK.of_below hb2)).trans (CurK.of_below hbd)).trans q2,?_,?_,hQ L lo1 hi1 ps1 off1 lo' hi' ps' off' hLne t1 t2 t3 hq1⟩
     ·show Zip M 1 all gk y.page lo' hi' ps' off' ((st1++[_]).map CStep.ghost)
      rw [List.map_append]
      exact hz'
     ·rw [List.length_append]
      simp only [List.length_cons,List.length_nil]
      omega
    clear q1 q2 hc1 hk1 hzip hq1 hch hr hcW hkW hIt hbn hbW hb2 hbn2 hIt2 hbd hz' t1 t2 t3 hbn5 hIt5 hcl hcell hy hnS hltc
    go_wp2_with (fail)
    go_roundg gk
    case measure=>omega
    case rel=>exact HE.out
end
section
variable {p most cnt:Nat} {c:Pc} {M:Store} {all:List Pair} {x:Cc} {root:Int} {w w':World} {st:List CStep} {items:List Item} {at':Int} {on:Bool}
def CurPos (w:World) (p:Nat) (x:Cc) (root:Int) (M:Store) (all:List Pair) (i:Nat):Prop:=
 ∃ st items lo hi ps off lid j,CurAt w p x root st items (j:Nat) true/\Zip M 1 all 0 lid lo hi ps off (st.map CStep.ghost)/\(∃ i2,LeafAt M items ps i2)/\riseI items=true/\(layI items).length<=240/\j<items.length/\i=off+j
def CurNo (w:World) (p:Nat) (x:Cc) (root:Int):Prop:=∃ st items j,CurAt w p x root st items j false
def GoesP (p:Nat) (x:Cc) (root:Int) (M:Store) (all:List Pair) (i:Option Nat) (w:World) (e:Ending) (w':World):Prop:=
 e=.returned (.bool i.isSome)/\∃ x',(match i with | some i=>CurPos w' p x' root M all i | none=>CurNo w' p x' root)/\CurK x x' w w'
theorem Zip.top {k:Nat} {id:Int} {lo:Bytes} {hi:Option Bytes} {ps:List Pair} {off:Nat} (h:Zip M 1 all k id lo hi ps off []):ps=all/\off=0:=by
 generalize hG:([]:List (List Child × Nat))=G at h
 cases h with
 | root h=>exact ⟨rfl,rfl⟩
 | down=>simp at hG
theorem CurK.hn {x':Cc} (hk:CurK x x' w w') (h:PgOk w p c most M cnt) (hn:∀ j,c.S p j->¬ x.S j):∀ j,c.S p j->¬ x'.S j:=λ j hj e=>by
 rcases hk.sub j e with e | e
 ·exact hn j hj e
 ·have:=h.lt j hj;omega
end
section
variable {p most cnt:Nat} {c:Pc} {M:Store} {all:List Pair} {x:Cc} {root:Int} {w:World} {st:List CStep} {items:List Item} {at':Int} {on:Bool}
theorem layI_ge0:∀ l:List Item,l.length<=(layI l).length
 | []=>Nat.le_refl _
 | y :: l=>by
  have h1:=layI_ge0 l
  have h2:=List.length_pos_iff.2 (Item.lay_ne y [])
  simp only [List.append_nil] at h2
  simp only [layI,List.length_append,List.length_cons]
  omega
end
section
variable {p most cnt:Nat} {c:Pc} {M:Store} {all:List Pair} {x:Cc} {root:Int} {w:World} {st:List CStep} {items:List Item} {at':Int} {on:Bool}
theorem own_pop {w:World} {base z n:Nat} {e:TypeId} {g cap:Nat} {xs:List Value} (h:w.ownsRow base e z (.slice (some ⟨g,0,none⟩) (n+1) cap) (n+1) xs):w.ownsRow base e z (.slice (some ⟨g,0,none⟩) n cap) n (xs.take (n*z)):=by
 obtain ⟨h1,⟨e0,_⟩ | ⟨g',cap',cur,e0,hgb,hheap,hnc,hcm,hcs,hcx⟩⟩:=h
 ·cases e0
 ·cases e0
  have hle:n*z<=(n+1)*z:=Nat.mul_le_mul_right _ (by omega)
  refine ⟨by rw [List.length_take,h1];omega,.inr ⟨g,cap,cur,rfl,hgb,hheap,by omega,hcm,hcs,?_⟩⟩
  rw [<- hcx,List.take_take,Nat.min_eq_left hle]
theorem cstepsCs_take (st:List CStep) (s:CStep):(cstepsCs (st++[s])).take (st.length*2)=cstepsCs st:=by
 rw [cstepsCs_snoc,<- cstepsCs_len,List.take_left']
 rfl
theorem cstepsCs_set (st:List CStep) (s:CStep) (k:Nat):(cstepsCs (st++[s])).set (st.length*2+1) (.int .i64 (k:Int))=cstepsCs (st++[{ s with at':=k }]):=by
 rw [cstepsCs_snoc,cstepsCs_snoc,List.set_append_right _ _ (by rw [cstepsCs_len];omega),cstepsCs_len]
 simp [cstepCs]
theorem cur_pop {s:CStep} {b g cap:Nat} {iv:Value} (h:CurAt w p ⟨b,.slice (some ⟨g,0,none⟩) (st.length+1) cap,iv⟩ root (st++[s]) items at' on) :
  CurAt (w.setCell ⟨b,2,none⟩ (.slice (some ⟨g,0,none⟩) st.length cap)) p ⟨b,.slice (some ⟨g,0,none⟩) st.length cap,iv⟩ root st items at' on/\CurK ⟨b,.slice (some ⟨g,0,none⟩) (st.length+1) cap,iv⟩ ⟨b,.slice (some ⟨g,0,none⟩) st.length cap,iv⟩ w (w.setCell ⟨b,2,none⟩ (.slice (some ⟨g,0,none⟩) st.length cap)):=by
 have K:Keeps (λ j=>j=b) w (w.setCell ⟨b,2,none⟩ (.slice (some ⟨g,0,none⟩) st.length cap)):=(Keeps.refl (λ j=>j=b) w).setCell (p:=⟨b,2,none⟩) (λ _=>rfl) _
 have hp:=h.path
 rw [List.length_append,List.length_singleton] at hp
 have hpop:=own_pop hp
 rw [cstepsCs_take] at hpop
 have hgb:g≠b:=own_ne h.path h.blk (by decide) g rfl
 refine ⟨⟨h.blk.set 2 _,own_keeps hpop K λ j hj e=>?_,λ s' hs'=>⟨own_keeps (h.kids s' (List.mem_append_left _ hs')).1 K λ j hj e=>(h.kids s' (List.mem_append_left _ hs')).2 j hj (.inl e),λ j hj e=>(h.kids s' (List.mem_append_left _ hs')).2 j hj e⟩,own_keeps h.its K λ j hj e=>h.itn j hj (.inl e),h.itn⟩,K.mono λ _ _ e=>.inl e,λ _ e=>.inl e,rfl⟩
 simp only [Value.ownBlock,Option.some.injEq] at hj
 exact hgb (hj.trans e)
theorem cur_turn {s:CStep} {b g cap:Nat} {iv:Value} (h:CurAt w p ⟨b,.slice (some ⟨g,0,none⟩) (st.length+1) cap,iv⟩ root (st++[s]) items at' on) (k:Nat) :
  CurAt (w.setCell ⟨g,st.length*2+1,none⟩ (.int .i64 (k:Int))) p ⟨b,.slice (some ⟨g,0,none⟩) (st.length+1) cap,iv⟩ root (st++[{ s with at':=k }]) items at' on/\CurK ⟨b,.slice (some ⟨g,0,none⟩) (st.length+1) cap,iv⟩ ⟨b,.slice (some ⟨g,0,none⟩) (st.length+1) cap,iv⟩ w (w.setCell ⟨g,st.length*2+1,none⟩ (.int .i64 (k:Int))):=by
 have K:Keeps (λ j=>j=g) w (w.setCell ⟨g,st.length*2+1,none⟩ (.int .i64 (k:Int))):=(Keeps.refl (λ j=>j=g) w).setCell (p:=⟨g,st.length*2+1,none⟩) (λ _=>rfl) _
 have hp:=h.path
 rw [List.length_append,List.length_singleton] at hp
 obtain ⟨q,_⟩:=World.ownsRow.stored hp (st.length*2+1) (.int .i64 (k:Int))
 rw [cstepsCs_set] at q
 have hgb:g≠b:=own_ne h.path h.blk (by decide) g rfl
 have hl:(st++[{ s with at':=k }]).length=(st++[s]).length:=by simp
 refine ⟨⟨h.blk.keeps K (λ e=>hgb e.symm),by rw [hl,List.length_append,List.length_singleton];exact q,λ s' hs'=>?_,own_keeps h.its K λ j hj e=>h.itn j hj (.inr (by rw [e];rfl)),h.itn⟩,K.mono λ _ _ e=>.inr (by rw [e];rfl),λ _ e=>.inl e,rfl⟩
 rcases List.mem_append.1 hs' with hm | hm
 ·exact ⟨own_keeps (h.kids s' (List.mem_append_left _ hm)).1 K λ j hj e=>(h.kids s' (List.mem_append_left _ hm)).2 j hj (.inr (by rw [e];rfl)),(h.kids s' (List.mem_append_left _ hm)).2⟩
 ·rw [List.mem_singleton.1 hm]
  exact ⟨own_keeps (h.kids s (by simp)).1 K λ j hj e=>(h.kids s (by simp)).2 j hj (.inr (by rw [e];rfl)),(h.kids s (by simp)).2⟩
def OverP (M:Store) (all:List Pair) (p:Nat) (x:Cc) (root:Int) (is:Bool) (at':Int) (on:Bool) (Q:Bytes->Option Bytes->List Pair->Nat->Prop) (w:World) (e:Ending) (w':World):Prop:=
 if is then DownP M all p x root at' on Q w e w' else ResetP p x root w (.bool false) e w'
theorem overN_ok (lid:Int) (lo:Bytes) (hi:Option Bytes) (ps:List Pair) (off t:Nat) (h:PgOk w p c most M cnt) (hc:CurAt w p x root st items at' on) (hn:∀ j,c.S p j->¬ x.S j) (hz:Zip M 1 all 0 lid lo hi ps off (st.map CStep.ghost)) (ht:off+ps.length=t) :
  Calls Tryz.prog 166 #[ptrV x.b,.int .i64 1,.func (.func 167) #[] #[]] w (OverP M all p x root (decide (t<all.length)) at' on (λ _ _ _ off=>off=t) w):=by
 obtain ⟨R,hR⟩:∃ R,R=decide (t<all.length):=⟨_,rfl⟩
 rw [<- hR]
 have HR:=Hdz hR
 clear hR
 go_enter Tryz.func166,Tryz.ntmps166
 go_wp2_with (fail)
 go_loopg [] st.length (λ gk wr=>∃ x1 st1 k1 id1 lo1 hi1 ps1 off1,Hid (st1.length=gk)/\CurAt wr p x1 root st1 items at' on/\CurK x x1 w wr/\Hid (Zip M 1 all k1 id1 lo1 hi1 ps1 off1 (st1.map CStep.ghost))/\Hid (off1+ps1.length=t))
 case atStart=>exact ⟨x,st,0,lid,lo,hi,ps,off,rfl,hc,CurK.refl _ _,hz,ht⟩
 case round =>
  obtain ⟨x1,st1,k1,id1,lo1,hi1,ps1,off1,hg,hc1,hk1,hz1,ht1⟩:=hrel
  have hpgr:PgOk wr p c most M cnt:=h.keeps hk1.keeps hn
  have hn1:=hk1.hn h hn
  have hxb1:=hk1.same
  rcases x1 with ⟨xb,xpv,xiv⟩
  simp only at hxb1
  subst hxb1
  rcases List.eq_nil_or_concat st1 with rfl | ⟨st2,s,hst⟩
  ·-- nothing is left of the way
   have hg0:gk=0:=by have:=hg.out;simpa using this.symm
   obtain ⟨e1,e2⟩:=Zip.top hz1.out
   have hfalse:decide (t<all.length)=false:=by
    have:=ht1.out
    rw [e1,e2] at this
    simp
    omega
   have hpath:=hc1.path
   simp only [List.length_nil] at hpath
   obtain ⟨Ap,dp,hpe,_⟩:=Sl.of_own hpath
   subst hpe
   have c2:wr.cell? ⟨x.b,2,none⟩=some (.slice Ap 0 dp):=hc1.blk.cell 2
   have HRS:=Hdz (reset_ok hc1)
   have HK:=Hdz hk1
   have HF:=Hdz hfalse
   clear hc1 hk1 hz1 ht1 hpgr hn1 hpath h hc hn hz ht hg e1 e2 hfalse
   go_wp2_with (fail)
   go_must (refine HRS.out.mono ?_)
   rintro e w2 ⟨rfl,q1,q2⟩
   go_wp2_with (fail)
   go_ret
   rw [HR.out,HF.out]
   exact ⟨rfl,q1,HK.out.trans q2⟩
  ·rw [List.concat_eq_append] at hst
   subst hst
   have hpath:=hc1.path
   rw [List.length_append,List.length_singleton] at hpath
   rcases hpath.2 with ⟨_,h0⟩ | ⟨g,cap,cur,hpe,hgb,hheap,hnc,hcm,hcs,hcx⟩
   ·cases h0
   simp only at hpe
   subst hpe
   clear hgb hheap hnc hcm hcs hcx
   have hzz:=hz1.out
   rw [List.map_append] at hzz
   obtain ⟨hil,hpar,hnx,hpv⟩:=Zip.beside (i:=s.at') (L:=s.L) hzz
   have hhigh:k1+(st2.length+1)<30:=by
    have:=hz1.out.low
    simpa using this
   obtain ⟨n,hn2⟩:=nmz (st2.length)
   have hsk:=hc1.kids s (by simp)
   have hown:=hsk.1
   unfold OwnsC at hown
   obtain ⟨sv,sat,sL⟩:=s
   simp only at hil hpar hnx hpv hown hsk hzz
   obtain ⟨As,ds,rfl,_⟩:=Sl.of_own hown
   obtain ⟨_,_,e0,_,_,hcl⟩:=Sl.of_own hown
   cases e0
   obtain ⟨gs,os,rfl,hgs,hcell⟩:=hcl (by omega)
   -- the last step's cells
   have hpcell:∀ j u,(cstepsCs (st2++[⟨.slice (some ⟨gs,os,none⟩) sL.length ds,sat,sL⟩]))[j]? = some u->wr.cell? ⟨g,0+j,none⟩=some u:=by
    obtain ⟨_,_,e1,_,_,hcl⟩:=Sl.of_own hpath
    cases e1
    obtain ⟨b',o',e2,_,hcl2⟩:=hcl (by omega)
    cases e2
    exact hcl2
   have a0:wr.cell? ⟨g,n*2,none⟩=some (.slice (some ⟨gs,os,none⟩) sL.length ds):=by
    have:=hpcell (n*2) (.slice (some ⟨gs,os,none⟩) sL.length ds) (by rw [cstepsCs_snoc,List.getElem?_append_right (by rw [cstepsCs_len];omega),cstepsCs_len,hn2];simp [cstepCs])
    rwa [Nat.zero_add] at this
   have a1:wr.cell? ⟨g,n*2+1,none⟩=some (.int .i64 (sat:Int)):=by
    have:=hpcell (n*2+1) (.int .i64 (sat:Int)) (by rw [cstepsCs_snoc,List.getElem?_append_right (by rw [cstepsCs_len];omega),cstepsCs_len,hn2];simp [cstepCs])
    rwa [Nat.zero_add] at this
   have f1:wr.frozen? ⟨g,n*2+1,none⟩=false:=World.ownsRow.frozenAt hpath _
   have c2:wr.cell? ⟨x.b,2,none⟩=some (.slice (some ⟨g,0,none⟩) (n+1) cap):=by rw [<- hn2];exact hc1.blk.cell 2
   have hcapn:n+1<=cap:=by
    obtain ⟨_,_,e1,hcap,_,_⟩:=Sl.of_own hpath
    cases e1
    omega
   have hcap0:(n:Int)<=(cap:Int):=by omega
   have hw1:IntKind.i64.wrap (n:Int)=(n:Int):=IntWalk.i64_in _ (by omega)
   have hn0:(0:Int)<=(n:Int):=by omega
   have hn1':(n:Int)<(n:Int)+1:=by omega
   have hpos:(0:Int)<(n:Int)+1:=by omega
   have hlL:sL.length<=9223372036854775807:=by
    rcases hown.2 with ⟨e,_⟩ | ⟨_,_,_,e,_,_,q1,q2,_,_⟩
    ·cases e
    ·cases e
     unfold maxLen at q2
     omega
   have hw2:IntKind.i64.wrap ((sat:Int)+1)=(sat:Int)+1:=IntWalk.i64_in _ (by omega)
   have hs0:(0:Int)<=(sat:Int)+1:=by omega
   have htn:((sat:Int)+1).toNat=sat+1:=by omega
   by_cases hlt:sat+1<sL.length
   ·obtain ⟨y,hy⟩:∃ y,sL[sat+1]? = some y:=⟨_,List.getElem?_eq_getElem hlt⟩
    obtain ⟨lo',hi',ps',hz'⟩:=hnx y hy
    obtain ⟨hc2,hk2⟩:=cur_turn hc1 (sat+1)
    rw [hn2,show ((sat+1:Nat):Int)=(sat:Int)+1 by omega] at hc2 hk2
    have htrue:decide (t<all.length)=true:=by
     obtain ⟨a,b,e1,e2,_⟩:=hz'.pos
     have hne:=hz'.tree.2 (by simp)
     have:=congrArg List.length e1
     have h5:=List.length_pos_iff.2 hne
     have:=ht1.out
     simp at this ⊢
     simp only [List.length_append] at *
     omega
    obtain ⟨W2,hW2⟩:∃ W2,W2=(wr.setCell ⟨g,n*2+1,none⟩ (.int .i64 ((sat:Int)+1))).drew:=⟨_,rfl⟩
    have hlt':(sat:Int)+1<(sL.length:Int):=by omega
    have K2:Keeps (Cc.S ⟨x.b,.slice (some ⟨g,0,none⟩) (n+1) cap,xiv⟩) wr W2:=by rw [hW2];exact hk2.keeps.drew
    have hc2W:CurAt W2 p ⟨x.b,.slice (some ⟨g,0,none⟩) (n+1) cap,xiv⟩ root (st2++[⟨.slice (some ⟨gs,os,none⟩) sL.length ds,sat+1,sL⟩]) items at' on:=by
     rw [hW2];exact hc2.below ((Below.refl _ _).drew)
    have hk2W:CurK ⟨x.b,.slice (some ⟨g,0,none⟩) (n+1) cap,xiv⟩ ⟨x.b,.slice (some ⟨g,0,none⟩) (n+1) cap,xiv⟩ wr W2:=⟨K2,λ _ e=>.inl e,rfl⟩
    have hpg2:=hpgr.keeps K2 (by rw [<- hn2];exact hn1)
    have hD:=down_ok 167 #[] (λ _=>0) (λ _ _ _ off=>off=t) (enters_of Tryz.func167 (by kernel_rfl) rfl) (λ L hL=>List.length_pos_iff.2 hL)
     (λ W A n d L _ _ _ _ _=>(leftmost_any (.slice A n d) W).mono λ e w' ⟨h1,h2⟩=>⟨h1,h2 ▸ Below.refl _ _⟩) (λ L lo hi ps off lo' hi' ps' off' _ h1 h2 h3 h4=>(h1 rfl).trans h4)
     k1 y.page lo' hi' ps' (off1+ps1.length) _ items at' on hpg2 hc2W (by rw [<- hn2];exact hn1) (by rw [List.map_append];exact hz') (by rw [List.length_append,List.length_singleton];omega) ht1.out
    have hown2:=own_keeps hown K2 (by rw [<- hn2];exact hsk.2)
    obtain ⟨_,_,e6,_,_,hcl6⟩:=Sl.of_own hown2
    cases e6
    obtain ⟨b6,o6,e6,_,hcell6⟩:=hcl6 (by omega)
    cases e6
    have hpage:W2.cell? ⟨gs,os+(sat+1)*2+1,none⟩=some (.int .i64 y.page):=by
     have h1:=childrenCs_at sL (sat+1) 1 hlt (by omega)
     rw [List.getElem?_eq_getElem hlt,Option.some.injEq] at hy
     rw [hy] at h1
     have h2:=hcell6 _ _ (h1.trans rfl)
     rw [<- Nat.add_assoc] at h2
     exact h2
    have hpage':(wr.setCell ⟨g,n*2+1,none⟩ (.int .i64 ((sat:Int)+1))).cell? ⟨gs,os+(sat+1)*2+1,none⟩=some (.int .i64 y.page):=by
     rw [hW2] at hpage
     exact hpage
    clear hpage
    have HD:=Hdz hD
    have HK:=Hdz ((hk1.trans (by rw [hn2];exact hk2W)))
    have HT:=Hdz htrue
    have HW2:=Hdz hW2
    clear hD hc2W hk2W hk2 hc2 hpg2 K2 hown2 hcl6 hcell6 hc1 hk1 hz1 ht1 hzz hpar hnx hpv hpgr hn1 h hc hn hz ht hpath hpcell hcell hcl hsk hown hz' hy htrue hW2 hil hlt
    go_wp2_with (fail)
    refine wRz ?_
    try simp only [lAz]
    refine tA 0 ?_;try simp only [lAz]
    refine tA 1 ?_;try simp only [lAz]
    refine tA 2 ?_;try simp only [lAz]
    refine tA 4 ?_;try simp only [lAz]
    refine tA 5 ?_;try simp only [lAz]
    refine tA 6 ?_;try simp only [lAz]
    refine rA 7 (v:=?_) (hy:=?hy) ?_;case hy=>(intro w hE;have q0:=hE.cell c2;go_simp;try with_reducible rfl)
    try simp only [lAz]
    refine tA 8 ?_;try simp only [lAz]
    refine tA 9 ?_;try simp only [lAz]
    refine rA 3 (v:=?_) (hy:=?hy) ?_;case hy=>(intro w hE;have q0:=hE.cell c2;go_simp;try with_reducible rfl)
    try simp only [lAz]
    refine tA 10 ?_;try simp only [lAz]
    refine rZz 11 λ K hK=>?_;go_simp;apply hK;clear hK K
    refine wDz ?_
    go_wp2_with (fail)
    rw [<- HW2.out]
    go_must (refine HD.out.mono ?_)
    rintro e w2 ⟨x2,st3,its,lo3,hi3,ps3,off3,lid3,rfl,q1,q2,q3⟩
    have HQ:=Hdz (Anz q1 (Anz q2 q3))
    clear q1 q2 q3
    go_wp2_with (fail)
    go_ret
    obtain ⟨q1,q2,q3⟩:=HQ.out
    rw [HR.out,HT.out]
    exact ⟨x2,st3,its,lo3,hi3,ps3,off3,lid3,rfl,q1,HK.out.trans q2,q3⟩
   ·obtain ⟨hc2,hk2⟩:=cur_pop hc1
    rw [hn2] at hc2 hk2
    obtain ⟨id',lo',hi',ps',off',hz',t1,t2⟩:=hpar
    have hlt':¬ (sat:Int)+1<(sL.length:Int):=by omega
    have e1:=t1 (by omega)
    have hg':=hg.out
    rw [List.length_append,List.length_singleton,hn2] at hg'
    have HE:Hid (∃ x1 st1 k1 id1 lo1 hi1 ps1 off1,Hid (st1.length=n)/\CurAt (wr.setCell ⟨x.b,2,none⟩ (.slice (some ⟨g,0,none⟩) n cap)).drew.drew p x1 root st1 items at' on/\CurK x x1 w (wr.setCell ⟨x.b,2,none⟩ (.slice (some ⟨g,0,none⟩) n cap)).drew.drew/\Hid (Zip M 1 all k1 id1 lo1 hi1 ps1 off1 (st1.map CStep.ghost))/\Hid (off1+ps1.length=t)):=
     ⟨_,st2,k1+1,id',lo',hi',ps',off',hn2,hc2.below ((Below.refl _ _).drew.drew),(hk1.trans (by rw [hn2];exact hk2)).trans (CurK.of_below ((Below.refl _ _).drew.drew)),hz',by show _=_;rw [e1];exact ht1.out⟩
    have HG:=Hdz hg'
    have b2:=hc1.blk.frozen 2
    simp only at b2
    clear hc2 hk2 hc1 hk1 hz1 ht1 hzz hnx hpv hpgr hn1 h hc hn hz ht hpath hpcell hcell hcl hsk hown hz' t1 t2 e1 hil hlt hg hg'
    go_wp2_with (fail)
    refine wRz ?_
    try simp only [lAz]
    refine tA 0 ?_;try simp only [lAz]
    refine tA 1 ?_;try simp only [lAz]
    refine tA 2 ?_;try simp only [lAz]
    refine tA 4 ?_;try simp only [lAz]
    refine tA 5 ?_;try simp only [lAz]
    refine tA 6 ?_;try simp only [lAz]
    refine rA 7 (v:=?_) (hy:=?hy) ?_;case hy=>(intro w hE;have q0:=hE.cell c2;go_simp;try with_reducible rfl)
    try simp only [lAz]
    refine tA 8 ?_;try simp only [lAz]
    refine tA 9 ?_;try simp only [lAz]
    refine rA 3 (v:=?_) (hy:=?hy) ?_;case hy=>(intro w hE;have q0:=hE.cell c2;go_simp;try with_reducible rfl)
    try simp only [lAz]
    refine tA 10 ?_;try simp only [lAz]
    refine rZz 11 λ K hK=>?_;go_simp;apply hK;clear hK K
    refine wDz ?_
    go_wp2_with (fail)
    refine wRz ?_
    try simp only [lAz]
    refine tA 0 ?_;try simp only [lAz]
    refine tA 1 ?_;try simp only [lAz]
    refine tA 2 ?_;try simp only [lAz]
    refine tA 3 ?_;try simp only [lAz]
    refine tA 5 ?_;try simp only [lAz]
    refine tA 6 ?_;try simp only [lAz]
    refine tA 7 ?_;try simp only [lAz]
    refine rA 8 (v:=?_) (hy:=?hy) ?_;case hy=>(intro w hE;have q0:=hE.cell c2;go_simp;try with_reducible rfl)
    try simp only [lAz]
    refine tA 9 ?_;try simp only [lAz]
    refine tA 10 ?_;try simp only [lAz]
    refine rA 4 (v:=?_) (hy:=?hy) ?_;case hy=>(intro w hE;have q0:=hE.cell c2;go_simp;try with_reducible rfl)
    try simp only [lAz]
    refine tA 11 ?_;try simp only [lAz]
    refine tA 12 ?_;try simp only [lAz]
    refine tA 13 ?_;try simp only [lAz]
    refine rZz 14 λ K hK=>?_;go_simp;apply hK;clear hK K
    refine wDz ?_
    go_wp2_with (fail)
    go_roundg n
    case measure=>have:=HG.out;omega
    case rel=>exact HE.out
end
section
variable {p most cnt:Nat} {c:Pc} {M:Store} {all:List Pair} {x:Cc} {root:Int} {w:World} {st:List CStep} {items:List Item} {at':Int} {on:Bool}
theorem next_no (hc:CurAt w p x root st items at' false):Calls Tryz.prog 116 #[ptrV x.b] w λ e w'=>e=.returned (.bool false)/\w=w':=by
 have HBad:=Hdz (bad_not hc)
 have c5:w.cell? ⟨x.b,5,none⟩=some (.bool false):=hc.blk.cell 5
 clear hc
 go_enter Tryz.func116,Tryz.ntmps116
 go_wp2_with (fail)
 go_must (refine HBad.out.mono ?_)
 rintro e w0 ⟨rfl,rfl⟩
 go_wp2_with (fail)
 go_ret
 exact ⟨rfl,rfl⟩
theorem Zip.len {k:Nat} {id:Int} {lo:Bytes} {hi:Option Bytes} {ps:List Pair} {off:Nat} {path:List (List Child × Nat)} {d:Nat} (h:Zip M d all k id lo hi ps off path):off+ps.length<=all.length:=by
 obtain ⟨a,b,e1,e2,_⟩:=h.pos
 have:=congrArg List.length e1
 simp only [List.length_append] at this
 omega
theorem next_ok (i:Nat) (h:PgOk w p c most M cnt) (hc:CurPos w p x root M all i) (hn:∀ j,c.S p j->¬ x.S j) :
  Calls Tryz.prog 116 #[ptrV x.b] w (GoesP p x root M all (if i+1<all.length then some (i+1) else none) w):=by
 obtain ⟨R,hR⟩:∃ R:Option Nat,R=if i+1<all.length then some (i+1) else none:=⟨_,rfl⟩
 rw [<- hR]
 have HR:=Hdz hR
 clear hR
 obtain ⟨st,its,lo,hi,ps,off,lid,j,hc,hz,⟨i2,hla⟩,hr,hs,hj,rfl⟩:=hc
 have HBad:=Hdz (bad_not hc)
 have hlen:=hla.item.1
 have hzl:=hz.len
 have hl240:its.length<=240:=by have:=layI_ge0 its;omega
 have hit:=hc.its
 unfold OwnsI at hit
 obtain ⟨Bi,di,hie,_⟩:=Sl.of_own hit
 have c3:w.cell? ⟨x.b,3,none⟩=some (.slice Bi its.length di):=by rw [<- hie];exact hc.blk.cell 3
 have c4:w.cell? ⟨x.b,4,none⟩=some (.int .i64 (j:Int)):=hc.blk.cell 4
 have c5:w.cell? ⟨x.b,5,none⟩=some (.bool true):=hc.blk.cell 5
 have hw:IntKind.i64.wrap ((j:Int)+1)=(j:Int)+1:=IntWalk.i64_in _ (by omega)
 have HIE:=Hdz hie
 clear hit hie
 have hcd:=hc.below ((Below.refl w.heap.size w).drew)
 by_cases hlt:j+1<its.length
 ·have hlt':(j:Int)+1<(its.length:Int):=by omega
  have hS:=stand_ok hcd (j+1) hlt
  rw [show ((j+1:Nat):Int)=(j:Int)+1 by omega] at hS
  have HS:=Hdz hS
  have HA:=Hdz (Anz hz (Anz hla (Anz hr (Anz hs (Anz hlt (Anz hlen hzl))))))
  clear hS hz hla hr hs hlt hlen hzl hc h hn hcd
  go_enter Tryz.func116,Tryz.ntmps116
  go_wp2_with (fail)
  go_must (refine HBad.out.mono ?_)
  rintro e w0 ⟨rfl,rfl⟩
  go_wp2_with (fail)
  go_region
  go_wp2_with (fail)
  go_must (refine HS.out.mono ?_)
  rintro e w1 ⟨rfl,q1,q2⟩
  have HQ:=Hdz (Anz q1 q2)
  clear q1 q2
  go_wp2_with (fail)
  go_ret
  obtain ⟨hz,hla,hr,hs,hlt,hlen,hzl⟩:=HA.out
  rw [HR.out,if_pos (by omega)]
  exact ⟨rfl,x,⟨st,its,lo,hi,ps,off,lid,j+1,HQ.out.1,hz,⟨_,hla⟩,hr,hs,hlt,by omega⟩,(CurK.of_below ((Below.refl w.heap.size w).drew)).trans HQ.out.2⟩
 ·have hlt':¬ (j:Int)+1<(its.length:Int):=by omega
  have hO:=overN_ok lid lo hi ps off (off+ps.length) (h.below ((Below.refl w.heap.size w).drew)) hcd hn hz rfl
  have HO:=Hdz hO
  have HA:=Hdz (Anz h (Anz hc (Anz hn (Anz hlt (Anz hlen hzl)))))
  clear hO hz hla hr hs hlt hlen hzl hc h hn hcd
  go_enter Tryz.func116,Tryz.ntmps116
  go_wp2_with (fail)
  go_must (refine HBad.out.mono ?_)
  rintro e w0 ⟨rfl,rfl⟩
  go_wp2_with (fail)
  go_region
  go_wp2_with (fail)
  go_must (refine HO.out.mono ?_)
  rintro e w1 hov
  unfold OverP at hov
  by_cases hT:off+ps.length<all.length
  ·rw [decide_eq_true hT] at hov
   simp only [if_true] at hov
   obtain ⟨x2,st2,its2,lo2,hi2,ps2,off2,lid2,rfl,q1,q2,q3,⟨i3,q4⟩,q5,q6,q7,q8⟩:=hov
   have hxb:=q2.same
   have hne:its2≠[]:=by
    by_cases h0:st2=[]
    ·subst h0
     obtain ⟨e1,e2⟩:=Zip.top q3
     obtain ⟨h,hc,hn,hlt,hlen,hzl⟩:=HA.out
     omega
    ·exact q7 h0
   have hp:=List.length_pos_iff.2 hne
   have hS:=stand_ok q1 0 hp
   rw [hxb] at hS
   have HS:=Hdz hS
   have HQ:=Hdz (Anz q2 (Anz q3 (Anz q4 (Anz q5 (Anz q6 (Anz q8 (Anz hp hT)))))))
   clear hS q1 q2 q3 q4 q5 q6 q7 q8 hp hne hT
   go_wp2_with (fail)
   go_must (refine HS.out.mono ?_)
   rintro e w2 ⟨rfl,r1,r2⟩
   have HR2:=Hdz (Anz r1 r2)
   clear r1 r2
   go_wp2_with (fail)
   go_ret
   obtain ⟨q2,q3,q4,q5,q6,q8,hp,hT⟩:=HQ.out
   obtain ⟨h,hc,hn,hlt,hlen,hzl⟩:=HA.out
   rw [HR.out,if_pos (by omega)]
   exact ⟨rfl,x2,⟨st2,its2,lo2,hi2,ps2,off2,lid2,0,HR2.out.1,q3,⟨_,q4⟩,q5,q6,hp,by omega⟩,((CurK.of_below ((Below.refl w.heap.size w).drew)).trans q2).trans HR2.out.2⟩
  ·rw [decide_eq_false hT] at hov
   simp only [Bool.false_eq_true,if_false] at hov
   obtain ⟨rfl,q1,q2⟩:=hov
   have HQ:=Hdz (Anz q1 (Anz q2 hT))
   clear q1 q2 hT
   go_wp2_with (fail)
   go_ret
   obtain ⟨q1,q2,hT⟩:=HQ.out
   obtain ⟨h,hc,hn,hlt,hlen,hzl⟩:=HA.out
   rw [HR.out,if_neg (by omega)]
   exact ⟨rfl,_,⟨_,_,_,q1⟩,(CurK.of_below ((Below.refl w.heap.size w).drew)).trans q2⟩
end
end Go.Ev
