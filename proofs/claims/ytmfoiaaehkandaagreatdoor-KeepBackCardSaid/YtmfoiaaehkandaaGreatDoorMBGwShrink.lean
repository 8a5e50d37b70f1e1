/-
  Texts of this claim.
-/
import Derived.Test.YtmfoiaaehkandaaGreatDoorMBGvPutDel
import Derived.Test.YtmfoiaaehkandaaGreatDoorMBGwWork
set_option linter.unusedVariables false
set_option linter.unusedSimpArgs false
set_option maxHeartbeats 8000000
set_option maxRecDepth 100000
namespace Go.Ev
open Go.Proofs Go.RowKit
def dropAll (M:Store) (l:List Int):Store:=l.foldl (λ M i=>updS M i none) M
theorem dropAll_snoc (M:Store) (l:List Int) (i:Int):dropAll M (l++[i])=updS (dropAll M l) i none:=by simp [dropAll]
theorem dropAll_at (M:Store):∀ (l:List Int) (i:Int),dropAll M l i=if i∈l then none else M i:=by
 intro l
 induction l generalizing M with
 | nil=>intro i;rfl
 | cons a l ih =>
  intro i
  show dropAll (updS M a none) l i=_
  rw [ih,updS]
  by_cases h1:i∈l
  ·simp [h1]
  ·by_cases h2:i=a
   ·simp [h1,h2]
   ·simp [h1,h2]
def EndP (p:Nat) (c:Pc) (most:Nat) (M:Store) (cnt:Nat) (l:List Int) (w:World) (e:Ending) (w':World):Prop:=
 e=.returned (.int .i64 0)/\∃ c',PgOk w' p c' most (dropAll M l) (cnt-l.length)/\PgK p c c' w w'
section
variable {p most cnt:Nat} {x:Wc} {M:Store} {made dropped:List Int} {w w':World}
theorem end_ok (h:WkOk w p x most M cnt made dropped) (hn:dropped.Nodup) (hM:∀ i∈dropped,(M i).isSome=true) (hl:dropped.length<=100000) :
  Calls Tryz.prog 146 #[ptrV x.b,.int .i64 0] w (EndP p x.c most M cnt dropped w):=by
 obtain ⟨c,b,mv,dv⟩:=x
 have hdr:=h.dr
 simp only at hdr
 obtain ⟨A,cc,rfl,_⟩:=Sl.of_own hdr
 clear hdr
 have g0:w.cell? ⟨b,0,none⟩=some (ptrV p):=h.blk.cell 0
 have g2:w.cell? ⟨b,2,none⟩=some (.slice A dropped.length cc):=h.blk.cell 2
 have HN:=Hdz hn
 have HM:=Hdz hM
 clear hn hM
 go_enter Tryz.func146,Tryz.ntmps146
 go_wp2_with (fail)
 go_loopg [20] dropped.length (λ gk s20 wr=>∃ (done rest:List Int) (c1:Pc),s20=.int .i64 done.length/\rest.length<=gk/\Hid (dropped=done++rest)/\WkOk wr p ⟨c1,b,mv,.slice A dropped.length cc⟩ most (dropAll M done) (cnt-done.length) made dropped/\Hid (PgK p c c1 w wr))
 case atStart=>exact ⟨[],dropped,c,rfl,Nat.le_refl _,rfl,h,PgK.refl _ _ _⟩
 case round =>
  obtain ⟨done,rest,c1,rfl,hg,hD,hW,hK⟩:=hrel
  have hlen:dropped.length=done.length+rest.length:=by rw [hD.out,List.length_append]
  cases rest with
  | nil =>
   have hdd:Hid (done=dropped):=by show _=_;rw [hD.out,List.append_nil]
   have hln:done.length=dropped.length:=by rw [hdd.out]
   have HW:=Hdz hW.pg
   have hge:¬ (done.length:Int)<(dropped.length:Int):=by omega
   clear hW hD hlen hg
   go_wp2_with (fail)
   go_ret
   refine ⟨rfl,c1,?_,hK.out⟩
   have:=HW.out
   rw [hdd.out] at this
   exact this
  | cons y r =>
   have hlt:(done.length:Int)<(dropped.length:Int):=by rw [hlen];simp;omega
   have hlt2:done.length<dropped.length:=by omega
   have hge0:(0:Int)<=(done.length:Int):=by omega
   have g0r:wr.cell? ⟨b,0,none⟩=some (ptrV p):=hW.blk.cell 0
   obtain ⟨A',c',e0,_,_,hcl⟩:=Sl.of_own hW.dr
   cases e0
   obtain ⟨blk,off,rfl,hbl,hcell⟩:=hcl (by omega)
   have hyv:wr.cell? ⟨blk,off+done.length,none⟩=some (.int .i64 y):=hcell done.length _ (by rw [hD.out];simp [intsV])
   have hy:(dropAll M done y).isSome=true:=by
    rw [dropAll_at,if_neg]
    ·exact HM.out y (by rw [hD.out];simp)
    ·intro hm
     have:=HN.out
     rw [hD.out,List.nodup_append] at this
     exact this.2.2 y hm y (List.mem_cons_self ..) rfl
   obtain ⟨pg,hpg⟩:=Option.isSome_iff_exists.1 hy
   have HDr:=Hdz (drop_any y pg wr hW.pg hpg)
   have hD2:Hid (dropped=(done++[y])++r):=by show _=_;rw [hD.out];simp
   have hrg:r.length<gk:=by simp at hg;omega
   have HW:=Hdz hW
   clear hcl hcell hpg hy hD hlen hW
   go_wp2_with (fail)
   go_must (refine HDr.out.mono ?_)
   rintro e w1 ⟨rfl,c2,hp2,hK2⟩
   have HW2:=Hdz (HW.out.pager hp2 hK2)
   have HK2:=Hdz (hK.out.trans hK2)
   clear hp2 hK2
   go_wp2_with (fail)
   go_roundg r.length
   case measure=>omega
   case rel=>exact ⟨done++[y],r,c2,by simp,Nat.le_refl _,hD2,by have:=HW2.out;rw [dropAll_snoc,List.length_append];rwa [Nat.sub_sub] at this,HK2⟩
end
def LeafP1 (p:Nat) (x:Wc) (most:Nat) (M:Store) (cnt:Nat) (made dropped:List Int) (l:List Item) (w:World) (e:Ending) (w':World):Prop:=
 ∃ id x' v,e=.returned (.tuple #[v,.int .i64 0])/\M id=none/\2<=id/\id<=100000/\OwnsC w' w.heap.size v [⟨[],id⟩]/\(∀ k,v.ownBlock=some k->¬ x'.S p k) ∧
  WkOk w' p x' most (updS M id (some ⟨2,0,layI l⟩)) (cnt+1) (made++[id]) dropped/\WkK p x x' w w'
theorem putI_fit {l:List Item} (hr:riseI l=true) (hs:(layI l).length<=240):putI l=(layI l,0):=by
 unfold putI
 simp [hr]
 omega
theorem own_child1 (w:World) (b:Bytes) (id:Int):OwnsC (w.alloc (.cells #[strV b,.int .i64 id] 291)) w.heap.size (.slice (some ⟨w.heap.size,0,none⟩) 1 1) [⟨b,id⟩]:=
 own_of (heap_alloc_new w _) (Nat.le_refl _) (Nat.le_refl _) (by unfold maxLen;omega) rfl rfl (λ j hj=>by
  match j with
  | 0=>rfl
  | 1=>rfl
  | j+2=>omega)
section
variable {p most cnt:Nat} {x:Wc} {M:Store} {made dropped:List Int} {w w':World}
theorem leaves1_ok (A:Option Addr) (n c:Nat) (l:List Item) (h:WkOk w p x most M cnt made dropped) (hv:Sl w 4 (.slice A n c) n (itemsCs l)) (ho:ItemsOk l) (hr:riseI l=true) (hs:(layI l).length<=240) (hroom:cnt+3<=most) (hmd:made.length<=100000) :
  Calls Tryz.prog 147 #[ptrV x.b,.slice A n c] w (LeafP1 p x most M cnt made dropped l w):=by
 have hP:=putI_any A n c l w hv ho
 unfold PutPost at hP
 rw [putI_fit hr hs] at hP
 have HP:=Hdz hP
 have HPg:=Hdz (λ (W:World) (hW:WkOk W p x most M cnt made dropped)=>page_any ⟨2,0,layI l⟩ hW ⟨by simp,by simp,by simp,by simp,hs⟩ rfl hroom hmd)
 have HH:=Hdz h
 clear hP h hv ho hr
 go_enter Tryz.func147,Tryz.ntmps147
 go_wp2_with (fail)
 go_must (refine HP.out.mono ?_)
 rintro e w1 ⟨rfl,hb1⟩
 have HH1:=Hdz (HH.out.below hb1)
 go_wp2_with (fail)
 go_must (refine (HPg.out w1 HH1.out).mono ?_)
 rintro e w2 ⟨id,x',rfl,hid,hid2,hid3,hW,hK⟩
 have HE:Hid (LeafP1 p x most M cnt made dropped l w (.returned (.tuple #[.slice (some ⟨w2.heap.size,0,none⟩) 1 1,.int .i64 0])) (w2.alloc (.cells #[strV [],.int .i64 id] 291))):=
  ⟨id,x',_,rfl,hid,hid2,hid3,own_base (own_child1 w2 [] id) (by have:=hb1.size;have:=hK.keeps.size;omega),λ k hk hs=>by
   simp only [Value.ownBlock,Option.some.injEq] at hk
   have:=hW.lt k hs
   omega,hW.alloc _,((WkK.of_below hb1).trans hK).trans (WkK.of_below ((Below.refl _ _).alloc (Nat.le_refl _) _))⟩
 clear hW hK
 go_wp2_with (fail)
 refine bodyPost_ret (v:=.tuple #[.slice (some ⟨w2.heap.size,0,none⟩) 1 1,.int .i64 0]) (by simp [results,Tryz.results147,go_sem]) rfl ?_
 exact HE.out
theorem WkK.fresh {S:Nat->Prop} {x':Wc} {w'':World} (h:WkK p x x' w w') (hk:Keeps S w' w'') (hs:∀ k,S k->w.heap.size<=k):WkK p x x' w w'':=
 ⟨h.keeps.trans hk λ i hi hh=>by have:=hs i hh;omega,h.sub,h.same,h.mb,h.db,h.wb⟩
theorem putI_long {l:List Item} (hr:riseI l=true) (hs:240<(layI l).length):putI l=([],2):=by
 unfold putI
 simp [hr,hs]
def LeafP2 (p:Nat) (x:Wc) (most:Nat) (M:Store) (cnt:Nat) (made dropped:List Int) (a b:List Item) (k:Bytes) (w:World) (e:Ending) (w':World):Prop:=
 ∃ i1 i2 x' v,e=.returned (.tuple #[v,.int .i64 0])/\M i1=none/\2<=i1/\i1<=100000/\updS M i1 (some ⟨2,0,layI a⟩) i2=none/\2<=i2/\i2<=100000/\OwnsC w' w.heap.size v [⟨[],i1⟩,⟨k,i2⟩]/\(∀ k,v.ownBlock=some k->¬ x'.S p k) ∧
  WkOk w' p x' most (updS (updS M i1 (some ⟨2,0,layI a⟩)) i2 (some ⟨2,0,layI b⟩)) (cnt+2) (made++[i1,i2]) dropped/\WkK p x x' w w'
theorem leaves2_ok (A:Option Addr) (n c:Nat) (l a b:List Item) (y:Item) (r:List Item) (h:WkOk w p x most M cnt made dropped) (hv:Sl w 4 (.slice A n c) n (itemsCs l)) (ho:ItemsOk l) (hn:n<=90000) (hr:riseI l=true) (hs:240<(layI l).length)
  (hsp:splitI l=(a,b)) (hb:b=y :: r) (hra:riseI a=true) (hrb:riseI b=true) (hoa:ItemsOk a) (hob:ItemsOk b) (hsa:(layI a).length<=240) (hsb:(layI b).length<=240) (hroom:cnt+4<=most) (hmd:made.length+1<=100000) :
  Calls Tryz.prog 147 #[ptrV x.b,.slice A n c] w (LeafP2 p x most M cnt made dropped a b y.key w):=by
 obtain ⟨i0,hi,hz0,hz1,hz2⟩:=info_parts infoC
 have hP:=putI_any A n c l w hv ho
 unfold PutPost at hP
 rw [putI_long hr hs] at hP
 have HP:=Hdz hP
 have HS:Hid (∀ W,Below w.heap.size w W->Calls Tryz.prog 200 #[.slice A n c] W (SplitPost l W)):=λ W hW=>splitI_any A n c l W (hv.below hW) ho hn
 have HL1:Hid (∀ (W:World) (A1:Option Addr) (na c1:Nat),WkOk W p x most M cnt made dropped->Sl W 4 (.slice A1 na c1) na (itemsCs a)->Calls Tryz.prog 147 #[ptrV x.b,.slice A1 na c1] W (LeafP1 p x most M cnt made dropped a W)):=
  λ W A1 na c1 q1 q2=>leaves1_ok A1 na c1 a q1 q2 hoa hra hsa (by omega) (by omega)
 have HL2:Hid (∀ (W:World) (A1:Option Addr) (na c1:Nat) (x1:Wc) (M1:Store) (made1:List Int),made1.length=made.length+1->WkOk W p x1 most M1 (cnt+1) made1 dropped->Sl W 4 (.slice A1 na c1) na (itemsCs b)->Calls Tryz.prog 147 #[ptrV x1.b,.slice A1 na c1] W (LeafP1 p x1 most M1 (cnt+1) made1 dropped b W)):=
  λ W A1 na c1 x1 M1 made1 q0 q1 q2=>leaves1_ok A1 na c1 b q1 q2 hob hrb hsb (by omega) (by omega)
 have HH:=Hdz h
 have HSP:=Hdz hsp
 have HBY:=Hdz hb
 clear hP h hv ho hr hsp hb hs hra hrb hoa hob hsa hsb hn
 go_enter Tryz.func147,Tryz.ntmps147
 go_wp2_with (fail)
 go_must (refine HP.out.mono ?_)
 rintro e w1 ⟨rfl,hb1⟩
 go_wp2_with (fail)
 go_must (refine (HS.out w1 hb1).mono ?_)
 rintro e w2 ⟨v1,v2,rfl,o1,o2,hb2⟩
 rw [HSP.out] at o1 o2
 simp only at o1 o2
 obtain ⟨na,hna⟩:=nmz (a.length)
 obtain ⟨nb,hnb⟩:=nmz (b.length)
 rw [hna] at o1
 rw [hnb] at o2
 obtain ⟨A1,c1,rfl,_⟩:=Sl.of_own o1
 obtain ⟨A2,c2,rfl,_⟩:=Sl.of_own o2
 have hnb1:¬ nb=0:=by rw [<- hnb,HBY.out];simp
 have hnb0:0<nb:=Nat.pos_of_ne_zero hnb1
 have hs1:=hb1.size
 have hs2:=hb2.size
 have hW2:=HH.out.below (hb1.trans (hb2.mono hs1))
 have HK2:=Hdz (WkK.of_below (p:=p) (x:=x) (hb1.trans (hb2.mono hs1)))
 have hC1:=Hdz (HL1.out w2 A1 na c1 hW2 (Sl.of_own o1))
 have O2:=Hdz o2
 clear hW2 o1 o2
 go_wp2_with (fail)
 go_must (refine hC1.out.mono ?_)
 rintro e w3 ⟨id1,x1,v12,rfl,hm1,hl1,hu1,own12,hns12,hW3,hK3⟩
 have o23:=own_keeps O2.out hK3.keeps (λ k hk hs=>by have:=HH.out.lt k hs;have:=(O2.out.lt k hk).1;omega)
 have hC2:=Hdz (HL2.out w3 A2 nb c2 x1 _ _ (by simp) hW3 (Sl.of_own o23))
 have hxb:=hK3.same
 have n23:∀ k,(Value.slice A2 nb c2).ownBlock=some k->¬ x1.S p k:=λ k hk hs=>by
  rcases hK3.sub k hs with h1 | h1
  ·have:=HH.out.lt k h1;have:=(O2.out.lt k hk).1;omega
  ·have:=(O2.out.lt k hk).2;omega
 have hs3:=hK3.keeps.size
 unfold OwnsC at own12
 obtain ⟨A12,c12,rfl,_⟩:=Sl.of_own own12
 rw [hxb] at hC2
 go_wp2_with (fail)
 go_must (refine hC2.out.mono ?_)
 rintro e w4 ⟨id2,x2,v14,rfl,hm2,hl2,hu2,own14,hns14,hW4,hK4⟩
 unfold OwnsC at own14
 rcases own14.2 with ⟨_,h0⟩ | ⟨g,cap,cur,rfl,hgb,hheap,hnc,hcm,hcs,hcx⟩
 ·cases h0
 have hs4:=hK4.keeps.size
 -- the halves' rows behind the second call
 have o24:=own_keeps o23 hK4.keeps n23
 have own124:=own_keeps own12 hK4.keeps hns12
 have hns124:∀ k,(Value.slice A12 1 c12).ownBlock=some k->¬ x2.S p k:=λ k hk hs=>by
  rcases hK4.sub k hs with h1 | h1
  ·exact hns12 k hk h1
  ·have:=(own12.lt k hk).2;omega
 obtain ⟨blk,off,hAe,hbl,hcell⟩:∃ blk off,A2=some ⟨blk,off,none⟩/\blk<w4.heap.size/\∀ j u,(itemsCs b)[j]? = some u->w4.cell? ⟨blk,off+j,none⟩=some u:=by
  obtain ⟨_,_,e0,_,_,hcl⟩:=Sl.of_own o24
  cases e0
  exact hcl hnb0
 subst hAe
 have y0:w4.cell? ⟨blk,off,none⟩=some (strV y.key):=hcell 0 _ (by rw [HBY.out];rfl)
 obtain ⟨u0,d0⟩:∃ u,w4.cell? ⟨g,0,none⟩=some u:=⟨_,by rw [cell_of_row w4 g _ cur _ (0,0) hheap];exact Array.getElem?_eq_getElem (by simp at hnc;omega)⟩
 have f0:=own14.frozenAt 0
 obtain ⟨q14,_⟩:=own14.stored 0 (strV y.key)
 have hgne:∀ k,(Value.slice A12 1 c12).ownBlock=some k->k≠g:=λ k hk e=>by have:=(own12.lt k hk).2;omega
 have K5:Keeps (λ k=>k=g) w4 (w4.setCell ⟨g,0,none⟩ (strV y.key)):=(Keeps.refl (λ k=>k=g) _).setCell (p:=⟨g,0,none⟩) (λ _=>rfl) _
 have own125:=own_keeps own124 K5 hgne
 have hW5:=hW4.keeps K5 (λ k hk e=>hns14 k (by rw [e];rfl) hk)
 have hnews:∀ j u,(childCs ⟨y.key,id2⟩)[j]? = some u->(w4.setCell ⟨g,0,none⟩ (strV y.key)).cell? ((⟨g,0,none⟩:Addr).add j)=some u:=by
  obtain ⟨_,_,e0,_,_,hcl⟩:=Sl.of_own q14
  cases e0
  obtain ⟨b',o',e1,_,hcl2⟩:=hcl (by simp)
  cases e1
  intro j u hu
  rw [addr_add]
  refine hcl2 j u ?_
  rw [<- hu]
  rfl
 have hs5:=K5.size
 have hb5:w2.heap.size<=(w4.setCell ⟨g,0,none⟩ (strV y.key)).heap.size:=by omega
 have HK5:=Hdz (((HK2.out.trans hK3).trans hK4).fresh K5 (λ k hk=>by rw [hk];have:=hgb;omega))
 have HW5:=Hdz hW5
 have HO5:=Hdz own125
 have HN:=Hdz hnews
 clear hcell q14 hnews hW5 hW4 hW3 o23 o24 own12 own14 own124 own125 hcx hcs hheap K5 hC2 hC1 HP HS HL1 HL2 hK3 hK4
 go_wp2_with (at_builtin;go_must (refine wpList_append_at rfl _ _ 240 rfl w2.heap.size 291 i0 _ 2 24 Tryz.underlying240 hi hz0 hz1 hz2 rfl (by decide) _ 1 (childrenCs [⟨[],id1⟩]) rfl HO5.out ⟨g,0,none⟩ 1 cap (childCs ⟨y.key,id2⟩) rfl rfl HN.out (by simp [childCs,Value.oneCell']) (by unfold maxLen;omega) (by omega) hb5 ?_))
 intro v6 w6 own6 hg6 hw6
 have hsz:(w4.setCell ⟨g,0,none⟩ (strV y.key)).heap.size=w4.heap.size:=by simp [World.setCell]
 have K6:Keeps (λ k=>(Value.slice A12 1 c12).ownBlock=some k) (w4.setCell ⟨g,0,none⟩ (strV y.key)) w6:=(Keeps.refl (λ k=>(Value.slice A12 1 c12).ownBlock=some k) _).grown hg6 (λ k hk _=>hk)
 have hW6:=HW5.out.keeps K6 (λ k hk e=>hns124 k e hk)
 have hK6:=HK5.out.fresh K6 (λ k hk=>by have:=(HO5.out.lt k hk).1;omega)
 have HE:Hid (LeafP2 p x most M cnt made dropped a b y.key w (.returned (.tuple #[v6,.int .i64 0])) w6):=by
  refine ⟨id1,id2,x2,v6,rfl,hm1,hl1,hu1,hm2,hl2,hu2,own_base own6 (by omega),λ k hk hs=>?_,by simpa using hW6,hK6⟩
  rcases hw6 k hk with h1 | h1
  ·exact hns124 k h1 hs
  ·have:=HW5.out.lt k hs;rw [hsz] at this;omega
 clear own6 hg6 hw6 K6 hW6 hK6
 go_wp2_with (fail)
 refine bodyPost_ret (v:=.tuple #[v6,.int .i64 0]) (by simp [results,Tryz.results147,go_sem]) rfl ?_
 exact HE.out
end
def BrP1 (p:Nat) (x:Wc) (most:Nat) (M:Store) (cnt:Nat) (made dropped:List Int) (k:Bytes) (L:List Child) (w:World) (e:Ending) (w':World):Prop:=
 ∃ id x' v,e=.returned (.tuple #[v,.int .i64 0])/\M id=none/\2<=id/\id<=100000/\OwnsC w' w.heap.size v [⟨k,id⟩]/\(∀ k,v.ownBlock=some k->¬ x'.S p k) ∧
  WkOk w' p x' most (updS M id (some ⟨3,0,layC L⟩)) (cnt+1) (made++[id]) dropped/\WkK p x x' w w'
theorem putC_fit {l:List Child} (hr:rightC l=true) (hs:(layC l).length<=240):putC l=(layC l,0):=by
 unfold putC
 simp [hr]
 omega
theorem putC_long {l:List Child} (hr:rightC l=true) (hs:240<(layC l).length):putC l=([],2):=by
 unfold putC
 simp [hr,hs]
theorem sl_child1 (w:World) (c0:Child):Sl (w.alloc (.cells #[strV c0.key,.int .i64 c0.page] 291)) 2 (.slice (some ⟨w.heap.size,0,none⟩) 1 1) 1 (childrenCs [c0]):=Sl.of_own (own_child1 w c0.key c0.page)
section
variable {p most cnt:Nat} {x:Wc} {M:Store} {made dropped:List Int} {w w':World}
theorem branches1_ok (A:Option Addr) (n c:Nat) (c0:Child) (r L:List Child) (h:WkOk w p x most M cnt made dropped) (hv:Sl w 2 (.slice A n c) n (childrenCs (c0 :: r))) (hL:L=headKey [] (c0 :: r)) (ho:ChildrenOk L) (hr:rightC L=true) (hs:(layC L).length<=240) (hn:n<=10000) (hroom:cnt+3<=most) (hmd:made.length<=100000) :
  Calls Tryz.prog 206 #[ptrV x.b,.slice A n c] w (BrP1 p x most M cnt made dropped c0.key L w):=by
 have hl:=hv.len2
 have hlt0:0<n:=by rw [<- hl];simp
 have HR:Hid (∀ W,Below w.heap.size w W->Calls Tryz.prog 204 #[.slice A n c,.int .i64 0,.slice (some ⟨W.heap.size,0,none⟩) 1 1] (W.alloc (.cells #[strV c0.key,.int .i64 c0.page] 291)) (ReplPost L (W.alloc (.cells #[strV c0.key,.int .i64 c0.page] 291)))):=by
  intro W hW
  have:=replC_any A (some ⟨W.heap.size,0,none⟩) n c 1 1 0 (c0 :: r) [c0] _ ((hv.below hW).alloc (.cells #[strV c0.key,.int .i64 c0.page] 291)) (sl_child1 W c0) (λ e=>by cases e) hn (by omega) hlt0
  rw [hL]
  exact this
 obtain ⟨blk,off,hAe,hbl,hcell⟩:∃ blk off,A=some ⟨blk,off,none⟩/\blk<w.heap.size/\∀ j u,(childrenCs (c0 :: r))[j]? = some u->w.cell? ⟨blk,off+j,none⟩=some u:=by
  obtain ⟨_,_,e0,_,_,hcl⟩:=id hv
  cases e0
  exact hcl hlt0
 subst hAe
 have y0:w.cell? ⟨blk,off,none⟩=some (strV c0.key):=hcell 0 _ rfl
 have y1:w.cell? ⟨blk,off+1,none⟩=some (.int .i64 c0.page):=hcell 1 _ rfl
 have HP:Hid (∀ (W:World) (A1:Option Addr) (n1 c1:Nat),Sl W 2 (.slice A1 n1 c1) n1 (childrenCs L)->Calls Tryz.prog 242 #[.slice A1 n1 c1] W λ e w'=>e=.returned (.tuple #[strV (layC L),.int .i64 0])/\Below W.heap.size W w'):=by
  intro W A1 n1 c1 q
  have:=putC_any A1 n1 c1 L W q ho
  unfold PutCPost at this
  rwa [putC_fit hr hs] at this
 have HPg:=Hdz (λ (W:World) (hW:WkOk W p x most M cnt made dropped)=>page_any ⟨3,0,layC L⟩ hW ⟨by simp,by simp,by simp,by simp,hs⟩ rfl hroom hmd)
 have HH:=Hdz h
 clear hcell h hv ho hr hL hl
 go_enter Tryz.func206,Tryz.ntmps206
 go_wp2_with (fail)
 go_must (refine (HR.out _ (Below.refl _ _)).mono ?_)
 rintro e w1 ⟨v1,rfl,hown,hb1⟩
 unfold OwnsC at hown
 obtain ⟨m,hm⟩:=nmz (L.length)
 rw [hm] at hown
 obtain ⟨A1,c1,rfl,_⟩:=Sl.of_own hown
 have hP1:=Hdz (HP.out w1 A1 m c1 (Sl.of_own hown))
 have hbw:Below w.heap.size w w1:=((Below.refl _ w).alloc (Nat.le_refl _) _).trans (hb1.mono (by simp))
 have HH1:=Hdz (HH.out.below hbw)
 clear hown
 go_wp2_with (fail)
 go_must (refine hP1.out.mono ?_)
 rintro e w2 ⟨rfl,hb2⟩
 have HH2:=Hdz (HH1.out.below hb2)
 have HB2:=Hdz (hbw.trans (hb2.mono hbw.size))
 go_wp2_with (fail)
 go_must (refine (HPg.out w2 HH2.out).mono ?_)
 rintro e w3 ⟨id,x',rfl,hid,hid2,hid3,hW,hK⟩
 have HE:Hid (BrP1 p x most M cnt made dropped c0.key L w (.returned (.tuple #[.slice (some ⟨w3.heap.size,0,none⟩) 1 1,.int .i64 0])) (w3.alloc (.cells #[strV c0.key,.int .i64 id] 291))):=
  ⟨id,x',_,rfl,hid,hid2,hid3,own_base (own_child1 w3 c0.key id) (by have:=HB2.out.size;have:=hK.keeps.size;omega),λ k hk hs=>by
   simp only [Value.ownBlock,Option.some.injEq] at hk
   have:=hW.lt k hs
   omega,hW.alloc _,((WkK.of_below HB2.out).trans hK).trans (WkK.of_below ((Below.refl _ _).alloc (Nat.le_refl _) _))⟩
 clear hW hK
 go_wp2_with (fail)
 refine bodyPost_ret (v:=.tuple #[.slice (some ⟨w3.heap.size,0,none⟩) 1 1,.int .i64 0]) (by simp [results,Tryz.results206,go_sem]) rfl ?_
 exact HE.out
def BrP2 (p:Nat) (x:Wc) (most:Nat) (M:Store) (cnt:Nat) (made dropped:List Int) (k1 k2:Bytes) (La Lb:List Child) (w:World) (e:Ending) (w':World):Prop:=
 ∃ i1 i2 x' v,e=.returned (.tuple #[v,.int .i64 0])/\M i1=none/\2<=i1/\i1<=100000/\updS M i1 (some ⟨3,0,layC La⟩) i2=none/\2<=i2/\i2<=100000/\OwnsC w' w.heap.size v [⟨k1,i1⟩,⟨k2,i2⟩]/\(∀ k,v.ownBlock=some k->¬ x'.S p k) ∧
  WkOk w' p x' most (updS (updS M i1 (some ⟨3,0,layC La⟩)) i2 (some ⟨3,0,layC Lb⟩)) (cnt+2) (made++[i1,i2]) dropped/\WkK p x x' w w'
theorem branches2_ok (A:Option Addr) (n c:Nat) (c0:Child) (r L:List Child) (z y:Child) (ra rb La Lb:List Child) (h:WkOk w p x most M cnt made dropped) (hv:Sl w 2 (.slice A n c) n (childrenCs (c0 :: r))) (hL:L=headKey [] (c0 :: r)) (ho:ChildrenOk L) (hr:rightC L=true) (hs:240<(layC L).length) (hn:n<=10000)
  (hsp:splitC L=(z :: ra,y :: rb)) (hLa:La=headKey [] (z :: ra)) (hLb:Lb=headKey [] (y :: rb)) (hoa:ChildrenOk La) (hob:ChildrenOk Lb) (hra:rightC La=true) (hrb:rightC Lb=true) (hsa:(layC La).length<=240) (hsb:(layC Lb).length<=240) (hroom:cnt+4<=most) (hmd:made.length+1<=100000) (hna:ra.length<=9000) (hnb:rb.length<=9000) :
  Calls Tryz.prog 206 #[ptrV x.b,.slice A n c] w (BrP2 p x most M cnt made dropped c0.key y.key La Lb w):=by
 obtain ⟨i0,hi,hz0,hz1,hz2⟩:=info_parts infoC
 have hl:=hv.len2
 have hlt0:0<n:=by rw [<- hl];simp
 have hLn:L.length<=10000:=by
  have:(headKey [] (c0 :: r)).length=(c0 :: r).length:=by simp [headKey]
  rw [hL]
  omega
 have HR:Hid (∀ W,Below w.heap.size w W->Calls Tryz.prog 204 #[.slice A n c,.int .i64 0,.slice (some ⟨W.heap.size,0,none⟩) 1 1] (W.alloc (.cells #[strV c0.key,.int .i64 c0.page] 291)) (ReplPost L (W.alloc (.cells #[strV c0.key,.int .i64 c0.page] 291)))):=by
  intro W hW
  have:=replC_any A (some ⟨W.heap.size,0,none⟩) n c 1 1 0 (c0 :: r) [c0] _ ((hv.below hW).alloc (.cells #[strV c0.key,.int .i64 c0.page] 291)) (sl_child1 W c0) (λ e=>by cases e) hn (by omega) hlt0
  rw [hL]
  exact this
 obtain ⟨blk,off,hAe,hbl,hcell⟩:∃ blk off,A=some ⟨blk,off,none⟩/\blk<w.heap.size/\∀ j u,(childrenCs (c0 :: r))[j]? = some u->w.cell? ⟨blk,off+j,none⟩=some u:=by
  obtain ⟨_,_,e0,_,_,hcl⟩:=id hv
  cases e0
  exact hcl hlt0
 subst hAe
 have y0:w.cell? ⟨blk,off,none⟩=some (strV c0.key):=hcell 0 _ rfl
 have y1:w.cell? ⟨blk,off+1,none⟩=some (.int .i64 c0.page):=hcell 1 _ rfl
 have HP:Hid (∀ (W:World) (A1:Option Addr) (n1 c1:Nat),Sl W 2 (.slice A1 n1 c1) n1 (childrenCs L)->Calls Tryz.prog 242 #[.slice A1 n1 c1] W λ e w'=>e=.returned (.tuple #[strV [],.int .i64 2])/\Below W.heap.size W w'):=by
  intro W A1 n1 c1 q
  have:=putC_any A1 n1 c1 L W q ho
  unfold PutCPost at this
  rwa [putC_long hr hs] at this
 have HSp:Hid (∀ (W:World) (A1:Option Addr) (n1 c1:Nat),n1<=90000->Sl W 2 (.slice A1 n1 c1) n1 (childrenCs L)->Calls Tryz.prog 243 #[.slice A1 n1 c1] W (SplitCPost L W)):=λ W A1 n1 c1 q0 q=>splitC_any A1 n1 c1 L W q ho q0
 have HL1:Hid (∀ (W:World) (A1:Option Addr) (na c1:Nat),na<=10000->WkOk W p x most M cnt made dropped->Sl W 2 (.slice A1 na c1) na (childrenCs (z :: ra))->Calls Tryz.prog 206 #[ptrV x.b,.slice A1 na c1] W (BrP1 p x most M cnt made dropped z.key La W)):=
  λ W A1 na c1 q0 q1 q2=>branches1_ok A1 na c1 z ra La q1 q2 hLa hoa hra hsa q0 (by omega) (by omega)
 have HL2:Hid (∀ (W:World) (A1:Option Addr) (na c1:Nat) (x1:Wc) (M1:Store) (made1:List Int),na<=10000->made1.length=made.length+1->WkOk W p x1 most M1 (cnt+1) made1 dropped->Sl W 2 (.slice A1 na c1) na (childrenCs (y :: rb))->Calls Tryz.prog 206 #[ptrV x1.b,.slice A1 na c1] W (BrP1 p x1 most M1 (cnt+1) made1 dropped y.key Lb W)):=
  λ W A1 na c1 x1 M1 made1 qn q0 q1 q2=>branches1_ok A1 na c1 y rb Lb q1 q2 hLb hob hrb hsb qn (by omega) (by omega)
 have HH:=Hdz h
 have HSP:=Hdz hsp
 clear hcell h hv ho hr hL hl hsp hLa hLb hoa hob hra hrb hsa hsb hs
 go_enter Tryz.func206,Tryz.ntmps206
 go_wp2_with (fail)
 go_must (refine (HR.out _ (Below.refl _ _)).mono ?_)
 rintro e w1 ⟨v1,rfl,hown,hb1⟩
 unfold OwnsC at hown
 obtain ⟨m,hm⟩:=nmz (L.length)
 rw [hm] at hown
 obtain ⟨A1,c1,rfl,_⟩:=Sl.of_own hown
 have hP1:=Hdz (HP.out w1 A1 m c1 (Sl.of_own hown))
 have hbw:Below w.heap.size w w1:=((Below.refl _ w).alloc (Nat.le_refl _) _).trans (hb1.mono (by simp))
 have HO1:=Hdz hown
 clear hown
 go_wp2_with (fail)
 go_must (refine hP1.out.mono ?_)
 rintro e w2 ⟨rfl,hb2⟩
 have HS2:=Hdz (HSp.out w2 A1 m c1 (by omega) ((Sl.of_own HO1.out).below hb2))
 have hbw2:=hbw.trans (hb2.mono hbw.size)
 go_wp2_with (fail)
 go_must (refine HS2.out.mono ?_)
 rintro e w3 ⟨va,vb,rfl,oa,ob,hb3⟩
 rw [HSP.out] at oa ob
 simp only at oa ob
 obtain ⟨na,hnaE⟩:=nmz ((z :: ra).length)
 obtain ⟨nb,hnbE⟩:=nmz ((y :: rb).length)
 have hna9:na<=10000:=by rw [<- hnaE];simp;omega
 have hnb9:nb<=10000:=by rw [<- hnbE];simp;omega
 have hnb1:¬ nb=0:=by rw [<- hnbE];simp
 have hnbB:((nb:Int)==0)=false:=by simp;omega
 rw [hnaE] at oa
 rw [hnbE] at ob
 obtain ⟨Aa,ca,rfl,_⟩:=Sl.of_own oa
 obtain ⟨Ab,cb,rfl,_⟩:=Sl.of_own ob
 have hbw3:=hbw2.trans (hb3.mono hbw2.size)
 have hs3:=hbw3.size
 have hW3:=HH.out.below hbw3
 have HK3:=Hdz (WkK.of_below (p:=p) (x:=x) hbw3)
 have hC1:=Hdz (HL1.out w3 Aa na ca hna9 hW3 (Sl.of_own oa))
 have hsz2:=hbw2.size
 have OB:=Hdz ob
 clear hW3 oa ob hnaE hnbE
 go_wp2_with (fail)
 go_must (refine hC1.out.mono ?_)
 rintro e w4 ⟨id1,x1,v13,rfl,hm1,hl1,hu1,own13,hns13,hW4,hK4⟩
 have ob4:=own_keeps OB.out hK4.keeps (λ k hk hs=>by have:=HH.out.lt k hs;have:=(OB.out.lt k hk).1;omega)
 have hC2:=Hdz (HL2.out w4 Ab nb cb x1 _ _ hnb9 (by simp) hW4 (Sl.of_own ob4))
 have hxb:=hK4.same
 have hs4:=hK4.keeps.size
 unfold OwnsC at own13
 rcases own13.2 with ⟨_,h0⟩ | ⟨g,cap,cur,rfl,hgb,hheap,hnc,hcm,hcs,hcx⟩
 ·cases h0
 rw [hxb] at hC2
 go_wp2_with (fail)
 go_must (refine hC2.out.mono ?_)
 rintro e w5 ⟨id2,x2,v15,rfl,hm2,hl2,hu2,own15,hns15,hW5,hK5⟩
 unfold OwnsC at own15
 have hs5:=hK5.keeps.size
 have own135:=own_keeps own13 hK5.keeps hns13
 have hgS:¬ x2.S p g:=λ hs=>by
  rcases hK5.sub g hs with h1 | h1
  ·exact hns13 g rfl h1
  ·have:=(own13.lt g rfl).2;omega
 rcases own15.2 with ⟨_,h0⟩ | ⟨g5,cap5,cur5,rfl,hgb5,hheap5,hnc5,hcm5,hcs5,hcx5⟩
 ·cases h0
 obtain ⟨u0,d0⟩:∃ u,w5.cell? ⟨g,0,none⟩=some u:=by
  rcases own135.2 with ⟨e0,_⟩ | ⟨g',cap',cur',e0,_,hh,hn',_,hc',_⟩
  ·cases e0
  ·simp only [Value.slice.injEq,Option.some.injEq,Addr.mk.injEq,and_true,true_and] at e0
   obtain ⟨rfl,rfl⟩:=e0
   exact ⟨_,by rw [cell_of_row w5 g _ cur' _ (0,0) hh];exact Array.getElem?_eq_getElem (by simp at hn';omega)⟩
 have f0:=own135.frozenAt 0
 obtain ⟨q13,_⟩:=own135.stored 0 (strV c0.key)
 have hglt:=(own13.lt g rfl).2
 have hglo:=(own13.lt g rfl).1
 have hg5:=(own15.lt g5 rfl).1
 have hgne:∀ k,(Value.slice (some ⟨g5,0,none⟩) 1 cap5).ownBlock=some k->k≠g:=λ k hk e=>by
  simp only [Value.ownBlock,Option.some.injEq] at hk
  omega
 have K5:Keeps (λ k=>k=g) w5 (w5.setCell ⟨g,0,none⟩ (strV c0.key)):=(Keeps.refl (λ k=>k=g) _).setCell (p:=⟨g,0,none⟩) (λ _=>rfl) _
 have own155:=own_keeps own15 K5 hgne
 have hW6:=hW5.keeps K5 (λ k hk e=>hgS (e ▸ hk))
 have hnews:∀ j u,(childCs ⟨y.key,id2⟩)[j]? = some u->(w5.setCell ⟨g,0,none⟩ (strV c0.key)).cell? ((⟨g5,0,none⟩:Addr).add j)=some u:=by
  obtain ⟨_,_,e0,_,_,hcl⟩:=Sl.of_own own155
  cases e0
  obtain ⟨b',o',e1,_,hcl2⟩:=hcl (by simp)
  cases e1
  intro j u hu
  rw [addr_add]
  refine hcl2 j u ?_
  rw [<- hu]
  rfl
 have q13':(w5.setCell ⟨g,0,none⟩ (strV c0.key)).ownsRow w3.heap.size 291 2 (.slice (some ⟨g,0,none⟩) 1 cap) 1 (childrenCs [⟨c0.key,id1⟩]):=q13
 have hs6:=K5.size
 have hb6:w3.heap.size<=(w5.setCell ⟨g,0,none⟩ (strV c0.key)).heap.size:=by omega
 have hsz:(w5.setCell ⟨g,0,none⟩ (strV c0.key)).heap.size=w5.heap.size:=by simp [World.setCell]
 have HK6:=Hdz (((HK3.out.trans hK4).trans hK5).fresh K5 (λ k hk=>by rw [hk];omega))
 have HW6:=Hdz hW6
 have HO6:=Hdz q13'
 have HN:=Hdz hnews
 clear q13 q13' hnews hW6 hW5 hW4 own13 own15 own135 own155 hcx hcs hheap hcx5 hcs5 hheap5 K5 hC2 hC1 HP HSp HL1 HL2 hK4 hK5
 go_wp2_with (at_builtin;go_must (refine wpList_append_at rfl _ _ 240 rfl w3.heap.size 291 i0 _ 2 24 Tryz.underlying240 hi hz0 hz1 hz2 rfl (by decide) _ 1 (childrenCs [⟨c0.key,id1⟩]) rfl HO6.out ⟨g5,0,none⟩ 1 cap5 (childCs ⟨y.key,id2⟩) rfl rfl HN.out (by simp [childCs,Value.oneCell']) (by unfold maxLen;omega) (by omega) hb6 ?_))
 intro v6 w6 own6 hg6 hw6
 have K6:Keeps (λ k=>(Value.slice (some ⟨g,0,none⟩) 1 cap).ownBlock=some k) (w5.setCell ⟨g,0,none⟩ (strV c0.key)) w6:=(Keeps.refl (λ k=>(Value.slice (some ⟨g,0,none⟩) 1 cap).ownBlock=some k) _).grown hg6 (λ k hk _=>hk)
 have hgS6:∀ k,(Value.slice (some ⟨g,0,none⟩) 1 cap).ownBlock=some k->¬ x2.S p k:=λ k hk hs=>by
  simp only [Value.ownBlock,Option.some.injEq] at hk
  exact hgS (hk ▸ hs)
 have hW6:=HW6.out.keeps K6 (λ k hk e=>hgS6 k e hk)
 have hK6:=HK6.out.fresh K6 (λ k hk=>by have:=(HO6.out.lt k hk).1;omega)
 have HE:Hid (BrP2 p x most M cnt made dropped c0.key y.key La Lb w (.returned (.tuple #[v6,.int .i64 0])) w6):=by
  refine ⟨id1,id2,x2,v6,rfl,hm1,hl1,hu1,hm2,hl2,hu2,own_base own6 (by omega),λ k hk hs=>?_,by simpa using hW6,hK6⟩
  rcases hw6 k hk with h1 | h1
  ·exact hgS6 k h1 hs
  ·have:=HW6.out.lt k hs;rw [hsz] at this;omega
 clear own6 hg6 hw6 K6 hW6 hK6
 go_wp2_with (fail)
 refine bodyPost_ret (v:=.tuple #[v6,.int .i64 0]) (by simp [results,Tryz.results206,go_sem]) rfl ?_
 exact HE.out
end
open Go.Shelf
attribute [local go_sem] Oper.semAt_some
def KB (Bs b:Nat) (W W':World):Prop:=W'.heap[Bs]? = W.heap[Bs]?/\W'.heap[b]? = W.heap[b]?
theorem KB.refl (Bs b:Nat) (W:World):KB Bs b W W:=⟨rfl,rfl⟩
theorem KB.trans {Bs b:Nat} {A B C:World} (h:KB Bs b A B) (k:KB Bs b B C):KB Bs b A C:=⟨k.1.trans h.1,k.2.trans h.2⟩
theorem stepsCs_at:∀ (l:List Step) (k j:Nat) (hk:k<l.length),j<3->(stepsCs l)[k*3+j]? = (stepCs l[k])[j]?
 | x :: l,0,j,_,hj=>by
  simp only [stepsCs,Nat.zero_mul,Nat.zero_add,List.getElem_cons_zero]
  rw [List.getElem?_append_left (by simp [stepCs];omega)]
 | x :: l,k+1,j,hk,hj=>by
  simp only [stepsCs,List.getElem_cons_succ]
  rw [List.getElem?_append_right (by simp [stepCs];omega),<- stepsCs_at l k j (by simpa using hk) hj]
  congr 1
  simp [stepCs]
  omega
def backs (n:Nat):List (Fin n):=(List.finRange n).reverse
theorem backs_len (n:Nat):(backs n).length=n:=by simp [backs]
theorem backs_at (n k:Nat) (h:k<n):(backs n)[k]? = some ⟨n-1-k,by omega⟩:=by
 unfold backs
 rw [List.getElem?_reverse (by simpa using h),List.length_finRange,List.getElem?_eq_getElem (by simp;omega),List.getElem_finRange]
 rfl
def stepV (s:Step):Value:=.agg #[.int .i64 s.id,.int .i64 s.at',s.v]
theorem back1_nil_in (F:Fence) (n:Nat) (hf:F.fn 239) (hro:F.round=none) (l Bs c:Nat) (A:Option Addr) (J:Nat->World->Prop) (W:World) (hBs:W.cell? ⟨Bs,0,none⟩=some (.slice A 0 c)) (h0:J 0 W) :
  CallsIn F n Tryz.prog 239 #[.func (.yield l) #[] #[],.pointer (some ⟨Bs,0,none⟩)] W λ e W'=>(∃ v,e=.returned v)/\J 0 W':=by
 refine callsIn_of_wp Tryz.func239 rfl hf ?_ hro
 simp only [Tryz.ntmps239,List.size_toArray,List.length_cons,List.length_nil,Nat.reduceAdd,Nat.reduceSub,Array.replicate_succ,Array.replicate_zero,List.push_toArray,List.append_toArray,List.nil_append,List.cons_append]
 gi_wp2
 gi_loopw [3] (λ i wr=>i=.int .i64 (-1)/\J 0 wr) (λ _ _=>0)
 case atStart=>exact ⟨rfl,h0⟩
 case round =>
  obtain ⟨rfl,hJs⟩:=hrel
  gi_wp2
  go_end0
  exact ⟨⟨_,rfl⟩,hJs⟩
theorem backward_in (F:Fence) (n:Nat) (hf:F.fn 203) (hro:F.round=none) (a:Option Addr) (len cap:Nat) (w:World) :
  CallsIn F n Tryz.prog 203 #[.slice a len cap] w λ e w'=>e=.returned (.func (.func 239) #[] #[.pointer (some ⟨w.heap.size,0,none⟩)])/\w'=w.alloc (.cells #[.slice a len cap] 216):=by
 refine callsIn_of_wp Tryz.func203 rfl hf ?_ hro
 simp only [Tryz.ntmps203,List.size_toArray,List.length_cons,List.length_nil,Nat.reduceAdd,Nat.reduceSub,Array.replicate_succ,Array.replicate_zero,List.push_toArray,List.append_toArray,List.nil_append,List.cons_append]
 gi_wp2
 go_ret
 exact ⟨rfl,rfl⟩
end Go.Ev
namespace Go.Ev
open Go.Proofs Go.RowKit
theorem cells_of_cell {w:World} {b o:Nat} {v:Value} (h:w.cell? ⟨b,o,none⟩=some v):∃ x,w.heap[b]? = some x/\x.isCells=true:=by
 unfold World.cell? at h
 cases hb:w.heap[b]? with
 | none=>simp [hb] at h
 | some x =>
  refine ⟨x,rfl,?_⟩
  cases x<;>simp [hb] at h ⊢ <;> rfl
theorem own_cells {w:World} {base z n:Nat} {e:TypeId} {v:Value} {xs:List Value} (h:w.ownsRow base e z v n xs):∀ k,v.ownBlock=some k->∃ x,w.heap[k]? = some x/\x.isCells=true:=by
 intro k hk
 rcases h.2 with ⟨rfl,_⟩ | ⟨g,cap,cur,rfl,_,hg,_⟩
 ·cases hk
 ·simp only [Value.ownBlock,Option.some.injEq] at hk
  subst hk
  exact ⟨_,hg,rfl⟩
section
variable {p most cnt:Nat} {x:Wc} {c:Pc} {M:Store} {made dropped:List Int} {w w':World}
theorem PgOk.cells (h:PgOk w p c most M cnt):∀ k,c.S p k->(k=c.mb\/k=c.db\/k=c.wb)\/∃ o,w.heap[k]? = some o/\o.isCells=true:=by
 obtain ⟨n,mm,was,mc,wc,dc,spare,h,_⟩:=h
 rintro k (hk | hk | hk | hk)
 ·simp only [Pc.ids,List.mem_cons,List.not_mem_nil,or_false] at hk
  rcases hk with rfl | rfl | rfl | rfl | rfl | rfl | rfl
  ·exact .inr ⟨_,h.blk,rfl⟩
  ·exact .inr ⟨_,h.dev.blk,rfl⟩
  ·exact .inr ⟨_,h.fre,rfl⟩
  ·exact .inr (cells_of_cell h.spr.1)
  ·exact .inl (.inl rfl)
  ·exact .inl (.inr (.inl rfl))
  ·exact .inl (.inr (.inr rfl))
 ·exact .inr (own_cells h.spr.2.2.2.1 k hk)
 ·obtain ⟨cs,hr⟩:=h.dev.srow;exact .inr (own_cells hr k hk)
 ·obtain ⟨cs,hr⟩:=h.dev.nrow;exact .inr (own_cells hr k hk)
def Pc.maps (c:Pc) (B:Nat):Prop:=c.mb<B/\c.db<B/\c.wb<B
theorem WkOk.cells (h:WkOk w p x most M cnt made dropped):∀ k,x.S p k->(k=x.c.mb\/k=x.c.db\/k=x.c.wb)\/∃ o,w.heap[k]? = some o/\o.isCells=true:=by
 rintro k (h1 | rfl | h1 | h1)
 ·exact h.pg.cells k h1
 ·exact .inr ⟨_,h.blk,rfl⟩
 ·exact .inr (own_cells h.mo k h1)
 ·exact .inr (own_cells h.dr k h1)
theorem WkOk.turn {B:Nat} {row:Option Nat} (h:WkOk w p x most M cnt made dropped) (hm:x.c.maps B) (hg:w.grownBy w' row) (hr:∀ r,row=some r->B<=r/\∃ o:Obj,w.heap[r]? = some o/\o.isCells=false):WkOk w' p x most M cnt made dropped:=by
 refine h.keeps ((Keeps.refl (λ k=>row=some k) w).grown hg (λ _ e _=>e)) λ k hk e=>?_
 obtain ⟨h1,o,h2,h3⟩:=hr k e
 rcases h.cells k hk with hh | ⟨o',h4,h5⟩
 ·obtain ⟨m1,m2,m3⟩:=hm
  rcases hh with rfl | rfl | rfl<;>omega
 ·rw [h2] at h4
  cases h4
  rw [h3] at h5
  cases h5
structure FitC (L:List Child):Prop where
 ok:ChildrenOk L
 right:rightC L=true
 few:L.length<=9000
 fit:(layC L).length<=240\/240<(layC L).length/\∃ z ra y rb,splitC L=(z :: ra,y :: rb)/\ChildrenOk (headKey [] (z :: ra))/\ChildrenOk (headKey [] (y :: rb))/\rightC (headKey [] (z :: ra))=true/\rightC (headKey [] (y :: rb))=true ∧
  (layC (headKey [] (z :: ra))).length<=240/\(layC (headKey [] (y :: rb))).length<=240/\ra.length<=9000/\rb.length<=9000
theorem ChildrenOk.of {L:List Child} (hf:∀ x∈L,x.fit=true) (hl:(layC L).length<=400):ChildrenOk L:=
 ⟨λ x hx=>by have:=Child.fit_iff.1 (hf x hx);omega,λ x hx=>by have:=Child.fit_iff.1 (hf x hx);exact ⟨by omega,by omega⟩,by omega,by have:=layC_len L;omega⟩
theorem FitC.of {L:List Child} (h:FitP L):FitC L:=by
 refine ⟨.of (rightC_fit h.right) h.len,h.right,by have:=layC_len L;have:=h.len;omega,?_⟩
 rcases h.fit with h1 | ⟨h1,z,ra,y,rb,h2,h3,h4,h5,h6,h7,h8⟩
 ·exact .inl h1
 ·have q1:=layC_len (headKey [] (z :: ra))
  have q2:=layC_len (headKey [] (y :: rb))
  simp only [headKey_len,List.length_cons] at q1 q2
  exact .inr ⟨h1,z,ra,y,rb,h2,.of (rightC_fit h3) (by omega),.of (rightC_fit h4) (by omega),h3,h4,h5,h6,by omega,by omega⟩
def BrP (p:Nat) (x:Wc) (most:Nat) (M:Store) (cnt:Nat) (made dropped:List Int) (k:Bytes) (L:List Child) (w:World) (e:Ending) (w':World):Prop:=
 ∃ kids M' new x' v,e=.returned (.tuple #[v,.int .i64 0])/\Laid M k L kids M' new/\OwnsC w' w.heap.size v kids/\(∀ k,v.ownBlock=some k->¬ x'.S p k)/\WkOk w' p x' most M' (cnt+new.length) (made++new) dropped/\WkK p x x' w w'
theorem branches_any (A:Option Addr) (n c:Nat) (c0:Child) (r L:List Child) (h:WkOk w p x most M cnt made dropped) (hv:Sl w 2 (.slice A n c) n (childrenCs (c0 :: r))) (hL:L=headKey [] (c0 :: r)) (hf:FitC L) (hn:n<=10000) (hroom:cnt+4<=most) (hmd:made.length+1<=100000) :
  Calls Tryz.prog 206 #[ptrV x.b,.slice A n c] w (BrP p x most M cnt made dropped c0.key L w):=by
 rcases hf.fit with hs | ⟨hs,z,ra,y,rb,h1,h2,h3,h4,h5,h6,h7,h8,h9⟩
 ·refine (branches1_ok A n c c0 r L h hv hL hf.ok hf.right hs hn (by omega) (by omega)).mono ?_
  rintro e w' ⟨id,x',v,rfl,k1,k2,k3,k4,k5,k6,k7⟩
  exact ⟨_,_,[id],x',v,rfl,.inl ⟨id,hs,k1,k2,k3,rfl,rfl,rfl⟩,k4,k5,k6,k7⟩
 ·refine (branches2_ok A n c c0 r L z y ra rb _ _ h hv hL hf.ok hf.right hs hn h1 rfl rfl h2 h3 h4 h5 h6 h7 hroom hmd h8 h9).mono ?_
  rintro e w' ⟨i1,i2,x',v,rfl,k1,k2,k3,k4,k5,k6,k7,k8,k9,k10⟩
  exact ⟨_,_,[i1,i2],x',v,rfl,.inr ⟨z,ra,y,rb,i1,i2,hs,h1,k1,k2,k3,k4,k5,k6,rfl,rfl,rfl⟩,k7,k8,k9,k10⟩
end
theorem isKey_any (s:Bytes) (w:World) (hs:s.length<=9223372036854775807):Calls Tryz.prog 132 #[strV s] w λ e w'=>e=.returned (.bool (decide (1<=s.length) && decide (s.length<=40)))/\w=w':=by
 cases s with
 | nil =>
  go_enter Tryz.func132,Tryz.ntmps132
  go_wp2
  go_ret
  exact ⟨rfl,rfl⟩
 | cons x s =>
  obtain ⟨n,hn⟩:=nmz ((x :: s).length)
  have h1:1<=n:=by rw [<- hn];simp
  have he:((x :: s)==([]:Bytes))=false:=rfl
  rw [hn]
  by_cases h40:n<=40
  ·have h40':(n:Int)<=40:=by omega
   go_enter Tryz.func132,Tryz.ntmps132
   go_wp2
   go_ret
   exact ⟨by simp [h1,h40],rfl⟩
  ·have h40':¬ (n:Int)<=40:=by omega
   go_enter Tryz.func132,Tryz.ntmps132
   go_wp2
   go_ret
   exact ⟨by simp [h1,h40],rfl⟩
section
variable {p most cnt:Nat} {c:Pc} {x:Wc} {M:Store} {made dropped:List Int}
theorem value_ok (it:Item) (v:Bytes) (ids:List Int) (w:World) (h:PgOk w p c most M cnt) (hv:ValAt M it v ids) (hl:v.length<=2000) (hil:ids.length<=2000) :
  Calls Tryz.prog 135 #[ptrV p,.agg #[strV it.key,strV it.val,.int .i64 it.over,.int .i64 it.size]] w λ e w'=>e=.returned (.tuple #[strV v,.int .i64 0])/\Below w.heap.size w w':=by
 obtain ⟨ik,iv,io,isz⟩:=it
 have bx:Blk (w.alloc (.cells #[strV ik,strV iv,.int .i64 io,.int .i64 isz] 223)) w.heap.size 223 #[strV ik,strV iv,.int .i64 io,.int .i64 isz]:=Blk.new _ _ _
 have x1:(w.alloc (.cells #[strV ik,strV iv,.int .i64 io,.int .i64 isz] 223)).cell? ⟨w.heap.size,1,none⟩=some (strV iv):=bx.cell 1
 have x2:(w.alloc (.cells #[strV ik,strV iv,.int .i64 io,.int .i64 isz] 223)).cell? ⟨w.heap.size,2,none⟩=some (.int .i64 io):=bx.cell 2
 have x3:(w.alloc (.cells #[strV ik,strV iv,.int .i64 io,.int .i64 isz] 223)).cell? ⟨w.heap.size,3,none⟩=some (.int .i64 isz):=bx.cell 3
 have HB:=Hdz ((Below.refl _ w).alloc (Nat.le_refl _) (.cells #[strV ik,strV iv,.int .i64 io,.int .i64 isz] 223))
 rcases hv with ⟨ho,hv1,_⟩ | ⟨ho,hc,hsz⟩
 ·dsimp only at ho hv1
  subst ho
  subst hv1
  clear h
  go_enter Tryz.func135,Tryz.ntmps135
  go_wp2
  go_ret2
  exact ⟨rfl,HB.out⟩
 ·have HG:=Hdz (overGet_ok io v ids _ (h.alloc (.cells #[strV ik,strV iv,.int .i64 io,.int .i64 isz] 223)) hc hl hil)
  dsimp only at ho hc hsz
  have ho1:(io==0)=false:=by simpa using ho
  rw [hsz] at HG
  clear h hc hsz
  go_enter Tryz.func135,Tryz.ntmps135
  go_wp2_with (fail)
  go_must (refine HG.out.mono ?_)
  rintro e w1 ⟨rfl,hb1⟩
  go_wp2_with (fail)
  go_ret2
  exact ⟨rfl,HB.out.trans (hb1.mono (by simp))⟩
theorem old_none (A:Option Addr) (n cc:Nat) (l:List Item) (k:Bytes) (w:World) (hv:Sl w 4 (.slice A n cc) n (itemsCs l)) (hn:n<=100000) (hr:riseI l=true) (hk:isAt k l=false\/∃ it,l[ahead k l]? = some it/\it.over=0) :
  Calls Tryz.prog 144 #[ptrV x.b,.slice A n cc,strV k] w λ e w'=>e=.returned (.int .i64 0)/\Below w.heap.size w w':=by
 have hl:=hv.len4
 subst hl
 have HF:=Hdz (findI_any A l.length cc l k w hv hn hr)
 cases hat:isAt k l with
 | false =>
  rw [hat] at HF
  clear hv hr hk
  go_enter Tryz.func144,Tryz.ntmps144
  go_wp2_with (fail)
  go_must (refine HF.out.mono ?_)
  rintro e w1 ⟨rfl,hb1⟩
  go_wp2_with (fail)
  go_ret
  exact ⟨rfl,hb1⟩
 | true =>
  obtain ⟨it,h1,h2⟩:=hk.resolve_left (by rw [hat];simp)
  rw [hat] at HF
  have hlt:=(List.getElem?_eq_some_iff.1 h1).1
  have hHV:=Hdz (λ W (hb:Below w.heap.size w W)=>hv.below hb)
  clear hv hr hk
  go_enter Tryz.func144,Tryz.ntmps144
  go_wp2_with (fail)
  go_must (refine HF.out.mono ?_)
  rintro e w1 ⟨rfl,hb1⟩
  obtain ⟨_,_,e0,_,_,hcl⟩:=hHV.out w1 hb1
  cases e0
  obtain ⟨blk,off,rfl,hbl,hcell⟩:=hcl (by omega)
  obtain ⟨_,_,q2,_⟩:=item_4 (w:=w1) λ i u hu=>item_cells (n:=l.length) hcell hlt i u hu
  rw [List.getElem?_eq_getElem hlt,Option.some.injEq] at h1
  rw [h1,h2] at q2
  have hi0:(0:Int)<=(ahead k l:Int):=by omega
  have hil:(ahead k l:Int)<(l.length:Int):=by omega
  clear hcell hcl h1 h2
  go_wp2_with (fail)
  go_ret
  exact ⟨rfl,hb1⟩
theorem item_small (k v:Bytes) (w:World) (hv:v.length<=60) :
  Calls Tryz.prog 145 #[ptrV x.b,strV k,strV v] w λ e w'=>e=.returned (.tuple #[.agg #[strV k,strV v,.int .i64 0,.int .i64 0],.int .i64 0])/\Below w.heap.size w w':=by
 have hbn:Blk (w.alloc (.cells #[strV k,strV v,.int .i64 0,.int .i64 0] 223)) w.heap.size 223 #[strV k,strV v,.int .i64 0,.int .i64 0]:=Blk.new _ _ _
 have HB:=Hdz ((Below.refl w.heap.size w).alloc (Nat.le_refl _) (.cells #[strV k,strV v,.int .i64 0,.int .i64 0] 223))
 have hv1:(v.length:Int)<=60:=by omega
 go_enter Tryz.func145,Tryz.ntmps145
 go_wp2_with (fail)
 refine bodyPost_ret (res_row [strV k,strV v,.int .i64 0,.int .i64 0] rfl rfl rfl (by kernel_rfl) hbn) rfl ?_
 exact ⟨rfl,HB.out⟩
theorem ints_one (l:List Int):∀ u∈intsV l,u.oneCell'=true:=by
 intro u hu
 simp only [intsV,List.mem_map] at hu
 obtain ⟨i,_,rfl⟩:=hu
 rfl
def OldP (p:Nat) (x:Wc) (most:Nat) (M:Store) (cnt:Nat) (made dropped ids:List Int) (w:World) (e:Ending) (w':World):Prop:=
 e=.returned (.int .i64 0)/\∃ x',WkOk w' p x' most M cnt made (dropped++ids)/\WkK p x x' w w'
/-- The chain of an item falls away. -/
theorem old_chain (A:Option Addr) (n cc:Nat) (l:List Item) (k:Bytes) (it:Item) (v:Bytes) (ids:List Int) (w:World) (h:WkOk w p x most M cnt made dropped) (hv:Sl w 4 (.slice A n cc) n (itemsCs l)) (hn:n<=100000) (hr:riseI l=true) (hk:isAt k l=true) (hit:l[ahead k l]? = some it) (ho:it.over≠0)
  (hval:ValAt M it v ids) (hvl:v.length<=2000) (hil:ids.length<=2000) (hdl:dropped.length<=100000) :
  Calls Tryz.prog 144 #[ptrV x.b,.slice A n cc,strV k] w (OldP p x most M cnt made dropped ids w):=by
 obtain ⟨i0,hi,hz0,hz1,hz2⟩:=info_parts infoInt
 have hl:=hv.len4
 subst hl
 have HF:=Hdz (findI_any A l.length cc l k w hv hn hr)
 rw [hk] at HF
 obtain ⟨_,hch,hsz⟩:=hval.resolve_left (λ e=>ho e.1)
 have hids:0<ids.length:=by cases hch<;>simp
 have ho1:(it.over==0)=false:=by simpa using ho
 have hlt:=(List.getElem?_eq_some_iff.1 hit).1
 have hHV:=Hdz (λ W (hb:Below w.heap.size w W)=>hv.below hb)
 have HP:=Hdz (λ W (hb:Below w.heap.size w W)=>overPages_ok it.over v ids W (h.pg.below hb) hch hvl hil)
 rw [hsz] at HP
 have HH:=Hdz h
 clear hv hr hk h hval hch
 go_enter Tryz.func144,Tryz.ntmps144
 go_wp2_with (fail)
 go_must (refine HF.out.mono ?_)
 rintro e w1 ⟨rfl,hb1⟩
 obtain ⟨_,_,e0,_,_,hcl⟩:=hHV.out w1 hb1
 cases e0
 obtain ⟨blk,off,rfl,hbl,hcell⟩:=hcl (by omega)
 obtain ⟨_,_,q2,q3⟩:=item_4 (w:=w1) λ i u hu=>item_cells (n:=l.length) hcell hlt i u hu
 rw [List.getElem?_eq_getElem hlt,Option.some.injEq] at hit
 rw [hit] at q2 q3
 have hi0:(0:Int)<=(ahead k l:Int):=by omega
 have hil:(ahead k l:Int)<(l.length:Int):=by omega
 have g0:w1.cell? ⟨x.b,0,none⟩=some (ptrV p):=(HH.out.below hb1).blk.cell 0
 have hP1:=HP.out w1.drew hb1.drew
 clear hcell hcl hit
 go_wp2_with (fail)
 have HH1:=Hdz (HH.out.below hb1)
 have HP1:=Hdz hP1
 clear hP1
 refine wRz ?_
 try simp only [lAz]
 refine tA 0 ?_;try simp only [lAz]
 refine tA 1 ?_;try simp only [lAz]
 refine tA 2 ?_;try simp only [lAz]
 refine tA 4 ?_;try simp only [lAz]
 refine tA 5 ?_;try simp only [lAz]
 refine tA 6 ?_;try simp only [lAz]
 refine tA 7 ?_;try simp only [lAz]
 refine tA 9 ?_;try simp only [lAz]
 refine tA 10 ?_;try simp only [lAz]
 refine tA 11 ?_;try simp only [lAz]
 refine tA 12 ?_;try simp only [lAz]
 refine rA 3 (v:=?_) (hy:=?hy) ?_;case hy=>(intro w hE;have q0:=hE.cell g0;have q1:=hE.cell q2;have q2:=hE.cell q3;go_simp;try with_reducible rfl)
 try simp only [lAz]
 refine rA 8 (v:=?_) (hy:=?hy) ?_;case hy=>(intro w hE;have q0:=hE.cell g0;have q1:=hE.cell q2;have q2:=hE.cell q3;go_simp;try with_reducible rfl)
 try simp only [lAz]
 refine rA 13 (v:=?_) (hy:=?hy) ?_;case hy=>(intro w hE;have q0:=hE.cell g0;have q1:=hE.cell q2;have q2:=hE.cell q3;go_simp;try with_reducible rfl)
 try simp only [lAz]
 refine rZz 14 λ K hK=>?_;go_simp
 (go_must (refine HP1.out.mono ?_);rintro e w2 ⟨r,rfl,own2,hb2⟩)
 go_simp
 apply hK
 clear hK K
 refine rZz 15 λ K hK=>?_;go_simp;apply hK;clear hK K
 try simp only [lAz]
 refine tA 16 ?_;try simp only [lAz]
 refine tA 17 ?_;try simp only [lAz]
 refine rZz 18 λ K hK=>?_;go_simp;apply hK;clear hK K
 refine rZz 19 λ K hK=>?_;go_simp;apply hK;clear hK K
 refine wDz ?_
 have hW2:=(HH1.out.drew).below hb2
 have g2:w2.cell? ⟨x.b,2,none⟩=some x.dv:=hW2.blk.cell 2
 rcases own2.2 with ⟨_,h0⟩ | ⟨g,cap,cur,rfl,hgb,hheap,hnc,hcm,hcs,hcx⟩
 ·omega
 have hnews:∀ j u,(intsV ids)[j]? = some u->w2.cell? ((⟨g,0,none⟩:Addr).add j)=some u:=by
  obtain ⟨_,_,e1,_,_,hcl⟩:=Sl.of_own own2
  cases e1
  obtain ⟨b',o',e2,_,hcl2⟩:=hcl hids
  cases e2
  intro j u hu
  rw [addr_add]
  exact hcl2 j u hu
 have hm1:dropped.length+ids.length<=maxLen:=by unfold maxLen;omega
 have HW2:=Hdz hW2
 have HN:=Hdz hnews
 have HBB:=Hdz (hb1.drew.trans (hb2.mono hb1.size))
 clear hcx hcs hheap own2 hnews hW2
 go_wp2_with (at_builtin;go_must (refine wpList_append_at rfl _ _ 35 rfl 0 3 i0 _ 1 8 Tryz.underlying35 hi hz0 hz1 hz2 rfl (by decide) _ dropped.length (intsV dropped) rfl HW2.out.dr ⟨g,0,none⟩ ids.length cap (intsV ids) rfl (by simp [intsV]) HN.out (ints_one ids) hm1 (by omega) (by omega) ?_))
 intro v4 w4 own4 hg4 hw4
 obtain ⟨h3,kk3⟩:=HW2.out.grownD (l:=ids) hg4 own4 hw4
 have bb:=HW2.out.blkD hg4
 have z1:w4.cell? ⟨x.b,2,none⟩=some x.dv:=bb.cell 2
 have z2:w4.frozen? ⟨x.b,2,none⟩=false:=bb.frozen 2
 obtain ⟨A4,c4,rfl,_⟩:=Sl.of_own own4
 have HE:Hid (OldP p x most M cnt made dropped ids w (.returned (.int .i64 0)) (w4.setCell ⟨x.b,2,none⟩ (.slice A4 (dropped.length+ids.length) c4))):=⟨rfl,_,h3,(WkK.of_below HBB.out).trans kk3⟩
 clear own4 hg4 hw4 h3 kk3
 go_wp2_with (fail)
 go_ret
 exact HE.out
end
open Go.Shelf
attribute [local go_sem] Oper.semAt_some
theorem WkOk.notStep {p most cnt:Nat} {x:Wc} {M:Store} {made dropped:List Int} {w:World} {b:Nat} {i0:Int} {at' v:Value} (h:WkOk w p x most M cnt made dropped) (hb:Blk w b 289 #[.int .i64 i0,at',v]):¬ x.S p b:=by
 have hT:∀ {t:TypeId} {cs:Array Value},Blk w b t cs->t=289:=λ h1=>by
  unfold Blk at h1 hb
  rw [hb] at h1
  simp only [Option.some.injEq,Obj.cells.injEq] at h1
  exact h1.2.1.symm
 have hM:∀ {l:List Ent} {c:Nat},¬ MapI w b l c:=λ h1=>by
  unfold MapI at h1
  unfold Blk at hb
  rw [hb] at h1
  cases h1
 obtain ⟨n,mm,was,mc,wc,dc,spare,g,_⟩:=h.pg
 rintro ((hk | hk | hk | hk) | rfl | hk | hk)
 ·simp only [Pc.ids,List.mem_cons,List.not_mem_nil,or_false] at hk
  rcases hk with rfl | rfl | rfl | rfl | rfl | rfl | rfl
  ·exact absurd (hT g.blk) (by decide)
  ·exact absurd (hT g.dev.blk) (by decide)
  ·exact absurd (hT g.fre) (by decide)
  ·have h1:=g.spr.1
   have h2:w.cell? ⟨x.c.sb,0,none⟩=some (.int .i64 i0):=hb.cell 0
   rw [h1] at h2
   obtain ⟨A,c,e,_⟩:=Sl.of_own g.spr.2.2.2.1
   rw [Option.some.inj h2] at e
   cases e
  ·exact hM g.mad
  ·exact hM g.dro
  ·exact hM g.wwas
 ·exact own_ne g.spr.2.2.2.1 hb (by decide) _ hk rfl
 ·obtain ⟨cs,hr⟩:=g.dev.srow;exact own_ne hr hb (by decide) _ hk rfl
 ·obtain ⟨cs,hr⟩:=g.dev.nrow;exact own_ne hr hb (by decide) _ hk rfl
 ·exact absurd (hT h.blk) (by decide)
 ·exact own_ne h.mo hb (by decide) _ hk rfl
 ·exact own_ne h.dr hb (by decide) _ hk rfl
theorem blk_turn {w w':World} {b B:Nat} {t:TypeId} {cs:Array Value} {row:Option Nat} (h:Blk w b t cs) (hg:w.grownBy w' row) (hr:∀ r,row=some r->B<=r/\∃ o:Obj,w.heap[r]? = some o/\o.isCells=false):Blk w' b t cs:=
 h.keeps (S:=λ k=>row=some k) ((Keeps.refl (λ k=>row=some k) w).grown hg (λ _ e _=>e)) λ e=>by
  obtain ⟨_,o,h1,h2⟩:=hr _ e
  unfold Blk at h
  rw [h] at h1
  cases h1
  cases h2
theorem own_turn {w w':World} {B base z n:Nat} {e:TypeId} {v:Value} {xs:List Value} {row:Option Nat} (h:w.ownsRow base e z v n xs) (hg:w.grownBy w' row) (hr:∀ r,row=some r->B<=r/\∃ o:Obj,w.heap[r]? = some o/\o.isCells=false):w'.ownsRow base e z v n xs:=
 own_keeps h ((Keeps.refl (λ k=>row=some k) w).grown hg (λ _ e _=>e)) λ k hk e=>by
  obtain ⟨_,o,h1,h2⟩:=hr _ e
  obtain ⟨o',h3,h4⟩:=own_cells h k hk
  rw [h1] at h3
  cases h3
  rw [h2] at h4
  cases h4
section
variable {p most cnt:Nat} {x:Wc} {M:Store} {made dropped:List Int}
theorem drop_turn {W:World} (h:WkOk W p x most M cnt made dropped) (id:Int) {v4:Value} {w4:World} (own4:w4.ownsRow 0 3 1 v4 (dropped.length+1) (intsV dropped++[.int .i64 id])) (hg4:(W.alloc (.cells #[.int .i64 id] 3)).drew.grownBy w4 x.dv.ownBlock)
  (hw4:∀ k,v4.ownBlock=some k->x.dv.ownBlock=some k\/(W.alloc (.cells #[.int .i64 id] 3)).drew.heap.size<=k) :
  WkOk (w4.setCell ⟨x.b,2,none⟩ v4) p { x with dv:=v4 } most M cnt made (dropped++[id])/\WkK p x { x with dv:=v4 } W (w4.setCell ⟨x.b,2,none⟩ v4):=by
 have h1:=(h.alloc (.cells #[.int .i64 id] 3)).drew
 obtain ⟨h3,kk3⟩:=h1.grownD (l:=[id]) hg4 own4 hw4
 exact ⟨h3,(WkK.of_below (((Below.refl _ W).alloc (Nat.le_refl _) _).drew)).trans kk3⟩
theorem drop_cells {W:World} (h:WkOk W p x most M cnt made dropped) (id:Int) {w4:World} (hg4:(W.alloc (.cells #[.int .i64 id] 3)).drew.grownBy w4 x.dv.ownBlock) :
  w4.cell? ⟨x.b,2,none⟩=some x.dv/\w4.frozen? ⟨x.b,2,none⟩=false/\∀ b v,b<W.heap.size->(∀ k,x.dv.ownBlock=some k->k≠b)->W.cell? ⟨b,0,none⟩=some v->w4.cell? ⟨b,0,none⟩=some v:=by
 have h1:=(h.alloc (.cells #[.int .i64 id] 3)).drew
 have bb:=h1.blkD hg4
 refine ⟨bb.cell 2,bb.frozen 2,λ b v hb hn hc=>?_⟩
 have K1:Keeps (λ k=>x.dv.ownBlock=some k) ((W.alloc (.cells #[.int .i64 id] 3)).drew) w4:=(Keeps.refl (λ k=>x.dv.ownBlock=some k) _).grown hg4 (λ k hk _=>hk)
 have e:w4.heap[b]? = W.heap[b]?:=(K1.block b (by simp;omega) (λ e=>hn b e rfl)).trans (Below.heap_alloc _ _ _ hb)
 unfold World.cell? at hc ⊢
 rw [e]
 exact hc
theorem rev_split (st:List Step) (k:Nat) (h:k<st.length):(st.map Step.ghost).reverse=(st.map Step.ghost).reverse.take k++(st[st.length-1-k]'(by omega)).ghost :: (st.map Step.ghost).reverse.drop (k+1)/\(st.map Step.ghost).reverse.take (k+1)=(st.map Step.ghost).reverse.take k++[(st[st.length-1-k]'(by omega)).ghost]:=by
 have hl:k<(st.map Step.ghost).reverse.length:=by simpa using h
 have e:(st.map Step.ghost).reverse[k]=(st[st.length-1-k]'(by omega)).ghost:=by
  rw [List.getElem_reverse,List.getElem_map]
  simp
 refine ⟨?_,?_⟩
 ·rw [<- e,<- List.drop_eq_getElem_cons hl,List.take_append_drop]
 ·rw [List.take_succ_eq_append_getElem hl,e]
end
end Go.Ev
namespace Go.Ev
open Go.Proofs Go.RowKit
structure UpsE (M:Store) (kids:List Child) (G:List (Int × Nat × List Child)) (k:Nat) (M1:Store) (kids1:List Child) (new:List Int):Prop where
 ups:UpsG M kids (G.take k) M1 kids1 new
 last:0<G.length->G.length<=k->∃ pre s M2 kids2 new1 new2 c,G=pre++[s]/\UpsG M kids pre M2 kids2 new1/\s.2.2[s.2.1]? = some c/\(allC s.2.2 s.2.1 c kids2).length≠1/\LaidG M2 (allC s.2.2 s.2.1 c kids2) kids1 M1 new2/\new=new1++new2
theorem UpsE.nil (M:Store) (kids:List Child) (G:List (Int × Nat × List Child)):UpsE M kids G 0 M kids []:=⟨by rw [List.take_zero];exact .nil,λ h1 h2=>by omega⟩
theorem UpsE.step {M M1 M2:Store} {kids kids1 kids2:List Child} {G pre post:List (Int × Nat × List Child)} {s:Int × Nat × List Child} {k:Nat} {new new2:List Int} {c:Child} (h:UpsE M kids G k M1 kids1 new) (hG:G=pre++s :: post) (hk:pre.length=k) (hc:s.2.2[s.2.1]? = some c)
  (hl:LaidG M1 (allC s.2.2 s.2.1 c kids1) kids2 M2 new2) (h1:post=[]->(allC s.2.2 s.2.1 c kids1).length≠1):UpsE M kids G (k+1) M2 kids2 (new++new2):=by
 have e0:G.take k=pre:=by rw [hG,<- hk,List.take_left]
 have e1:G.take (k+1)=pre++[s]:=by
  rw [hG,<- hk,List.take_append,List.take_of_length_le (Nat.le_succ _)]
  simp
 have hu:UpsG M kids pre M1 kids1 new:=by have:=h.ups;rw [e0] at this;exact this
 refine ⟨by rw [e1];obtain ⟨a,b,d⟩:=s;exact .snoc hu hc hl,λ _ h2=>?_⟩
 have hp:post=[]:=by
  rw [hG] at h2
  simp only [List.length_append,List.length_cons] at h2
  exact List.eq_nil_of_length_eq_zero (by omega)
 exact ⟨pre,s,M1,kids1,new,new2,c,by rw [hG,hp],hu,hc,h1 hp,hl,rfl⟩
theorem UpsE.fin {M M1 M':Store} {kids kids1:List Child} {G:List (Int × Nat × List Child)} {new new3:List Int} {root:Int} {k:Nat} (h:UpsE M kids G k M1 kids1 new) (hk:G.length<=k) (hf:FinG M1 kids1 root M' new3):EndG M kids G root M' (new++new3) []:=by
 cases hG:G with
 | nil =>
  have hu:=h.ups
  rw [hG,List.take_nil] at hu
  obtain ⟨rfl,rfl,rfl⟩:=hu.none
  exact .inl ⟨rfl,rfl,by simpa using hf⟩
 | cons a b =>
  obtain ⟨pre,s,M2,kids2,new1,new2,c,e,h1,h2,h3,h4,h5⟩:=h.last (by rw [hG];simp) hk
  rw [<- hG]
  exact .inr ⟨pre,s,M2,kids2,new1,c,e,h1,h2,.inr ⟨M1,kids1,new2,new3,h3,h4,hf,by rw [h5],rfl⟩⟩
structure UpGI (p:Nat) (x:Wc) (most:Nat) (M:Store) (cnt:Nat) (made dropped:List Int) (st:List Step) (pv kv0:Value) (kids:List Child) (w:World) (k:Nat) (W:World):Prop where
 ex:∃ M1 kids1 new x1 kv,UpsE M kids (st.map Step.ghost).reverse k M1 kids1 new/\WkOk W p x1 most M1 (cnt+new.length) (made++new) (dropped++((st.map Step.ghost).reverse.take k).map (·.1)) ∧
  WkK p x x1 w w/\OwnsC W 0 kv kids1/\Blk W (w.heap.size+2) 240 #[kv]/\(∀ j,kv.ownBlock=some j->¬ x1.S p j/\(kv0.ownBlock=some j\/w.heap.size+6<=j))/\(∀ j,w.heap.size<=j->j<w.heap.size+6->¬ x1.S p j)/\(∀ j,x1.S p j->x.S p j\/w.heap.size<=j)/\x1.b=x.b/\x1.c.maps (w.heap.size+6)
 frame:Keeps (λ j=>x.S p j\/kv0.ownBlock=some j) w W
 b3:Blk W w.heap.size 233 #[ptrV x.b]
 b4:Blk W (w.heap.size+1) 216 #[pv]
 b6:Blk W (w.heap.size+3) 3 #[.int .i64 0]
 b7:Blk W (w.heap.size+4) 28 #[.int .i64 0]
 bs:Blk W (w.heap.size+5) 216 #[pv]
theorem UpGI.own {p:Nat} {x:Wc} {most:Nat} {M:Store} {cnt:Nat} {made dropped:List Int} {st:List Step} {pv kv0:Value} {kids:List Child} {w:World} {B:Nat} (hB:w.heap.size+6<=B):OwnFrom B (UpGI p x most M cnt made dropped st pv kv0 kids w):=by
 intro k W W' row h hg hr
 obtain ⟨⟨M1,kids1,new,x1,kv,h1,h2,h3,h4,h5,h6,h7,h8,h9,h10⟩,hf,q3,q4,q6,q7,qs⟩:=h
 have hm:x1.c.maps B:=by obtain ⟨m1,m2,m3⟩:=h10;exact ⟨by omega,by omega,by omega⟩
 exact ⟨⟨M1,kids1,new,x1,kv,h1,h2.turn hm hg hr,h3,own_turn h4 hg hr,blk_turn h5 hg hr,h6,h7,h8,h9,h10⟩,
  hf.grown hg (λ r e hlt=>by have:=(hr r e).1;omega),blk_turn q3 hg hr,blk_turn q4 hg hr,blk_turn q6 hg hr,blk_turn q7 hg hr,blk_turn qs hg hr⟩
structure UpGX (p:Nat) (x:Wc) (most:Nat) (M:Store) (cnt:Nat) (made dropped:List Int) (st:List Step) (kv0:Value) (kids:List Child) (w:World) (k:Nat) (W:World):Prop where
 ex:∃ root M1 new drp x1,EndG M kids (st.map Step.ghost).reverse root M1 new drp/\WkOk W p x1 most M1 (cnt+new.length) (made++new) (dropped++(st.map Step.ghost).reverse.map (·.1)++drp)/\WkK p x x1 w w/\x1.c.maps (w.heap.size+6) ∧
  Blk W (w.heap.size+3) 3 #[.int .i64 root]/\Blk W (w.heap.size+4) 28 #[.int .i64 0]
 frame:Keeps (λ j=>x.S p j\/kv0.ownBlock=some j) w W
theorem UpGX.own {p:Nat} {x:Wc} {most:Nat} {M:Store} {cnt:Nat} {made dropped:List Int} {st:List Step} {kv0:Value} {kids:List Child} {w:World} {B:Nat} (hB:w.heap.size+6<=B):OwnFrom B (UpGX p x most M cnt made dropped st kv0 kids w):=by
 intro k W W' row h hg hr
 obtain ⟨⟨root,M1,new,drp,x1,h1,h2,h3,h4,h5,h6⟩,hf⟩:=h
 have hm:x1.c.maps B:=by obtain ⟨m1,m2,m3⟩:=h4;exact ⟨by omega,by omega,by omega⟩
 exact ⟨⟨root,M1,new,drp,x1,h1,h2.turn hm hg hr,h3,h4,blk_turn h5 hg hr,blk_turn h6 hg hr⟩,hf.grown hg (λ r e hlt=>by have:=(hr r e).1;omega)⟩
def UpGP (p:Nat) (x:Wc) (most:Nat) (M:Store) (cnt:Nat) (made dropped:List Int) (st:List Step) (kv0:Value) (kids:List Child) (w:World) (e:Ending) (w':World):Prop:=
 ∃ root M' new drp x',e=.returned (.tuple #[.int .i64 root,.int .i64 0])/\EndG M kids (st.map Step.ghost).reverse root M' new drp/\WkOk w' p x' most M' (cnt+new.length) (made++new) (dropped++(st.map Step.ghost).reverse.map (·.1)++drp)/\WkK p x x' w w ∧
  Keeps (λ j=>x.S p j\/kv0.ownBlock=some j) w w'
open Go.Shelf
attribute [local go_sem] Oper.semAt_some
theorem back1_inS (F:Fence) (n:Nat) (hf:F.fn 239) (hro:F.round=none) (hn:1<=n) (l Bs b off cap:Nat) (st:List Step) (hreach:st.length<=100000) (J Jx:Nat->World->Prop)
  (hY:∀ (k:Nat) (x:Fin st.length) W,(backs st.length)[k]? = some x->J k W->YieldAt F (n-1) Tryz.prog l #[.int .i64 (x.1:Int),stepV st[x.1]] W λ e W'=>(e=.returned (.bool true)/\J (k+1) W'/\KB Bs b W W')\/(e=.returned (.bool false)/\Jx (k+1) W'))
  (W:World) (hBs:W.cell? ⟨Bs,0,none⟩=some (.slice (some ⟨b,off,none⟩) st.length cap)) (hc:∀ j u,(stepsCs st)[j]? = some u->W.cell? ⟨b,off+j,none⟩=some u) (h0:J 0 W) :
  CallsIn F n Tryz.prog 239 #[.func (.yield l) #[] #[],.pointer (some ⟨Bs,0,none⟩)] W λ e W'=>(∃ v,e=.returned v)/\(J st.length W'\/∃ k,k<=st.length/\Jx k W'):=by
 refine callsIn_of_wp Tryz.func239 rfl hf ?_ hro
 simp only [Tryz.ntmps239,List.size_toArray,List.length_cons,List.length_nil,Nat.reduceAdd,Nat.reduceSub,Array.replicate_succ,Array.replicate_zero,List.push_toArray,List.append_toArray,List.nil_append,List.cons_append]
 gi_wp2
 gi_loopw [3] (λ i wr=>∃ k:Nat,k<=st.length/\i=.int .i64 ((st.length:Int)-1-k)/\J k wr/\KB Bs b W wr)
  (λ i _=>(Go.RowKit.intOf i+1).toNat)
 case atStart=>exact ⟨0,Nat.zero_le _,by simp,h0,KB.refl _ _ _⟩
 case round =>
  obtain ⟨k,hk,rfl,hJs,hnx⟩:=hrel
  have hBx:wr.cell? ⟨Bs,0,none⟩=some (.slice (some ⟨b,off,none⟩) st.length cap):=(World.cell?_of_block hnx.1).trans hBs
  by_cases hlt:k<st.length
  ·obtain ⟨m,hm⟩:∃ m,m=st.length-1-k:=⟨_,rfl⟩
   have hmI:(st.length:Int)-1-(k:Int)=(m:Int):=by omega
   have hml:m<st.length:=by omega
   obtain ⟨fn,tmps,assign,body,hy,hR⟩:=hY k ⟨m,hml⟩ wr (by rw [backs_at _ _ hlt];congr;exact hm.symm) hJs
   have hcx:∀ j u,(stepCs st[m])[j]? = some u->wr.cell? ⟨b,off+m*3+j,none⟩=some u:=λ j u hu=>by
    have hj:j<3:=(List.getElem?_eq_some_iff.1 hu).1
    rw [Nat.add_assoc]
    exact (World.cell?_of_block hnx.2).trans (hc (m*3+j) u ((stepsCs_at st m j hml hj).trans hu))
   have q0:wr.cell? ⟨b,off+m*3,none⟩=some (.int .i64 st[m].id):=hcx 0 _ rfl
   have q1:wr.cell? ⟨b,off+m*3+1,none⟩=some (.int .i64 st[m].at'):=hcx 1 _ rfl
   have q2:wr.cell? ⟨b,off+m*3+2,none⟩=some st[m].v:=hcx 2 _ rfl
   unfold stepV at hy
   dsimp only at hy
   rw [hmI]
   have HM:=Hdz hm
   clear hcx hY hm
   have hm0:(0:Int)<=(m:Int):=by omega
   have hmlt:(m:Int)<(st.length:Int):=by omega
   gi_wp2
   refine hR.mono ?_
   rintro e W3 (⟨rfl,hJ3,hk3⟩ | ⟨rfl,hJ3⟩)
   ·gi_wp2
    go_roundw
    case rel=>exact ⟨k+1,by omega,by have:=HM.out;congr 1;omega,hJ3,hnx.trans hk3⟩
    case measure=>simp [Go.RowKit.intOf]
   ·gi_wp2
    first | go_end0 | ((try simp only [Exit.inBlock,Exit.then]);refine bodyPost_ret (results_none rfl _ _ _) rfl ?_) | go_ret
    exact ⟨⟨_,rfl⟩,.inr ⟨k+1,by omega,hJ3⟩⟩
  ·obtain rfl:k=st.length:=by omega
   gi_wp2
   go_end0
   exact ⟨⟨_,rfl⟩,.inl hJs⟩
theorem back_eachS (F:Fence) (n:Nat) (hf:F.fn 239) (hro:F.round=none) (hn:1<=n) (Bs b off cap:Nat) (A:Option Addr) (st:List Step) (hreach:st.length<=100000) (w:World) (hBl:Bs<w.heap.size)
  (hBs:w.cell? ⟨Bs,0,none⟩=some (.slice A st.length cap)) (hA:0<st.length->A=some ⟨b,off,none⟩) (hbl:0<st.length->b<w.heap.size) (hc:∀ j u,(stepsCs st)[j]? = some u->w.cell? ⟨b,off+j,none⟩=some u) :
  EachS F n Tryz.prog 239 #[.pointer (some ⟨Bs,0,none⟩)] (λ x:Fin st.length=>#[.int .i64 (x.1:Int),stepV st[x.1]]) (KB Bs b) (backs st.length) w:=λ l J Jx W hW hY h0=>by
 have hBs':=(hW.cell (p:=⟨Bs,0,none⟩) hBl).trans hBs
 rw [backs_len]
 cases st with
 | nil=>exact (back1_nil_in F n hf hro l Bs cap A J W hBs' h0).mono λ e W' ⟨h1,h2⟩=>⟨h1,.inl h2⟩
 | cons s st =>
  rw [hA (by simp)] at hBs'
  exact back1_inS F n hf hro hn l Bs b off cap (s :: st) hreach J Jx hY W hBs' (λ j u hu=>(hW.cell (p:=⟨b,off+j,none⟩) (hbl (by simp))).trans (hc j u hu)) h0
end Go.Ev
namespace Go.Ev
open Go.Proofs Go.RowKit
section
variable {p most cnt:Nat} {x:Wc} {M:Store} {made dropped:List Int}
def ShrinkP (p:Nat) (x:Wc) (most:Nat) (M:Store) (cnt:Nat) (made dropped:List Int) (root:Int) (drp:List Int) (w:World) (e:Ending) (w':World):Prop:=
 ∃ x',e=.returned (.tuple #[.int .i64 root,.int .i64 0])/\WkOk w' p x' most M cnt made (dropped++drp)/\WkK p x x' w w'
theorem Shrink.cases' {id root:Int} {drp:List Int} (h:Shrink M id root drp):(∃ items,M id=some ⟨2,0,layI items⟩/\riseI items=true/\(layI items).length<=240/\items≠[]/\root=id/\drp=[]) ∨
  (∃ L,M id=some ⟨3,0,layC L⟩/\rightC L=true/\(layC L).length<=240/\2<=L.length/\root=id/\drp=[]) ∨
  ∃ y d,M id=some ⟨3,0,layC [y]⟩/\rightC [y]=true/\(layC [y]).length<=240/\Shrink M y.page root d/\drp=id :: d:=by
 cases h with
 | leaf h1 h2 h3 h4=>exact .inl ⟨_,h1,h2,h3,h4,rfl,rfl⟩
 | wide h1 h2 h3 h4=>exact .inr (.inl ⟨_,h1,h2,h3,h4,rfl,rfl⟩)
 | one h1 h2 h3 h4=>exact .inr (.inr ⟨_,_,h1,h2,h3,h4,rfl⟩)
theorem shrink_ok (id root:Int) (drp:List Int) (w:World) (h:WkOk w p x most M cnt made dropped) (hs:Shrink M id root drp) (hd:drp.length<=28) (hdl:dropped.length<=50000) :
  Calls Tryz.prog 205 #[ptrV x.b,.int .i64 id] w (ShrinkP p x most M cnt made dropped root drp w):=by
 obtain ⟨i0,hi,hz0,hz1,hz2⟩:=info_parts infoInt
 go_enter Tryz.func205,Tryz.ntmps205
 go_wp2_with (fail)
 go_loopg [1,6] drp.length (λ gk s1 s6 wr=>∃ (cur:Int) (done rest:List Int) (x':Wc),s1=.int .i64 cur/\s6=.int .i64 ((done.length:Int)+1)/\rest.length<=gk/\Hid (done++rest=drp)/\Hid (Shrink M cur root rest)/\Hid (WkOk wr p x' most M cnt made (dropped++done))/\Hid (WkK p x x' w wr))
 case atStart=>exact ⟨id,[],drp,x,rfl,rfl,Nat.le_refl _,rfl,hs,(by show WkOk _ _ _ _ _ _ _ _;simpa using h),WkK.refl _ _ _⟩
 case round =>
  obtain ⟨cur,done,rest,x',rfl,rfl,hg,hdr,hsh,hwk,hkk⟩:=hrel
  have hb:x'.b=x.b:=hkk.out.same
  have g0:wr.cell? ⟨x.b,0,none⟩=some (ptrV p):=by rw [<- hb];exact hwk.out.blk.cell 0
  have hlen:done.length+rest.length<=28:=by have:=congrArg List.length hdr.out;rw [List.length_append] at this;omega
  have hdl1:(done.length:Int)+1=((done.length+1:Nat):Int):=by omega
  rcases hsh.out.cases' with ⟨items,h1,h2,h3,h4,h5,h6⟩ | ⟨L,h1,h2,h3,h4,h5,h6⟩ | ⟨y,d,h1,h2,h3,h4,h5⟩
  ·have hX:=load_leaf cur (done.length+1) items wr hwk.out.pg h1 h2 h3 (by omega) (.inl h4)
   rw [<- hdl1] at hX
   have HX:=Hdz hX
   have HR:=Hdz (Anz h5 h6)
   clear hX h1 h2 h3 h4 h5 h6 h hs hdl1
   go_wp2_with (fail)
   go_must (refine HX.out.mono ?_)
   rintro e w1 ⟨v,rfl,hIt,hb1⟩
   unfold OwnsI at hIt
   obtain ⟨B,dd,rfl,_⟩:=Sl.of_own hIt
   have HB:=Hdz hb1
   clear hIt hb1
   go_wp2_with (fail)
   refine bodyPost_ret (v:=.tuple #[.int .i64 cur,.int .i64 0]) (by simp [results,Tryz.results205,go_sem]) rfl ?_
   obtain ⟨rfl,h6⟩:=HR.out
   have hd2:=hdr.out
   rw [h6,List.append_nil] at hd2
   subst hd2
   have hbb:=(Below.refl _ w1).alloc (Nat.le_refl _) (.cells #[.bool true,.slice B items.length dd,.slice none 0 0] 285)
   exact ⟨x',rfl,(hwk.out.below HB.out).below hbb,(hkk.out.trans (WkK.of_below HB.out)).trans (WkK.of_below hbb)⟩
  ·have hX:=load_branch cur (done.length+1) L wr hwk.out.pg h1 h2 h3 (by omega) (.inl h4)
   rw [<- hdl1] at hX
   have HX:=Hdz hX
   have HR:=Hdz (Anz h5 h6)
   have hL1:(1:Int)<(L.length:Int):=by omega
   clear hX h1 h2 h3 h4 h5 h6 h hs hdl1
   go_wp2_with (fail)
   go_must (refine HX.out.mono ?_)
   rintro e w1 ⟨v,rfl,hIt,hb1⟩
   unfold OwnsC at hIt
   obtain ⟨B,dd,rfl,_⟩:=Sl.of_own hIt
   have HB:=Hdz hb1
   clear hIt hb1
   go_wp2_with (fail)
   refine bodyPost_ret (v:=.tuple #[.int .i64 cur,.int .i64 0]) (by simp [results,Tryz.results205,go_sem]) rfl ?_
   obtain ⟨rfl,h6⟩:=HR.out
   have hd2:=hdr.out
   rw [h6,List.append_nil] at hd2
   subst hd2
   have hbb:=(Below.refl _ w1).alloc (Nat.le_refl _) (.cells #[.bool false,.slice none 0 0,.slice B L.length dd] 285)
   exact ⟨x',rfl,(hwk.out.below HB.out).below hbb,(hkk.out.trans (WkK.of_below HB.out)).trans (WkK.of_below hbb)⟩
  ·have hX:=load_branch cur (done.length+1) [y] wr hwk.out.pg h1 h2 h3 (by omega) (.inr (by omega))
   rw [<- hdl1] at hX
   have HX:=Hdz hX
   have HR:=Hdz (Anz h4 h5)
   have hgk:d.length+1<=gk:=by rw [h5] at hg;simpa using hg
   clear hX h1 h2 h3 h4 h5 h hs hdl1 hg
   go_wp2_with (fail)
   go_must (refine HX.out.mono ?_)
   rintro e w1 ⟨v,rfl,hIt,hb1⟩
   unfold OwnsC at hIt
   obtain ⟨B,dd,rfl,-⟩:=Sl.of_own hIt
   obtain ⟨_,_,e0,_,_,hcl⟩:=Sl.of_own hIt
   cases e0
   obtain ⟨blk,off,rfl,hbl,hcell⟩:=hcl (by simp)
   have hbb:=(Below.refl _ w1).alloc (Nat.le_refl _) (.cells #[.bool false,.slice none 0 0,.slice (some ⟨blk,off,none⟩) 1 dd] 285)
   have bn:Blk (w1.alloc (.cells #[.bool false,.slice none 0 0,.slice (some ⟨blk,off,none⟩) 1 dd] 285)) w1.heap.size 285 #[.bool false,.slice none 0 0,.slice (some ⟨blk,off,none⟩) 1 dd]:=Blk.new _ _ _
   have n0:(w1.alloc (.cells #[.bool false,.slice none 0 0,.slice (some ⟨blk,off,none⟩) 1 dd] 285)).cell? ⟨w1.heap.size,0,none⟩=some (.bool false):=bn.cell 0
   have n2:(w1.alloc (.cells #[.bool false,.slice none 0 0,.slice (some ⟨blk,off,none⟩) 1 dd] 285)).cell? ⟨w1.heap.size,2,none⟩=some (.slice (some ⟨blk,off,none⟩) 1 dd):=bn.cell 2
   obtain ⟨D1,hD1⟩:=nmz (dropped++done)
   have hD1l:D1.length<=50100:=by rw [<- hD1,List.length_append];omega
   have hwk0:=hwk.out
   rw [hD1] at hwk0
   rcases x' with ⟨xc,xb,xm,xd⟩
   simp only at hb
   subst hb
   have hw1:=(hwk0.below hb1).below hbb
   have hdr':=hw1.dr
   simp only at hdr'
   obtain ⟨Ad,cd,rfl,-⟩:=Sl.of_own hdr'
   have hw2:=hw1.alloc (.cells #[.int .i64 cur] 3)
   have g2:(w1.alloc (.cells #[.bool false,.slice none 0 0,.slice (some ⟨blk,off,none⟩) 1 dd] 285)).cell? ⟨x.b,2,none⟩=some (.slice Ad D1.length cd):=hw1.blk.cell 2
   have hxb:x.b<w1.heap.size:=(hwk0.below hb1).blk.lt
   have HW2:=Hdz (Anz hw2 (Anz (bn.alloc (.cells #[.int .i64 cur] 3)) (Anz (own_below (own_below hIt hbb) ((Below.refl _ _).alloc (Nat.le_refl _) (.cells #[.int .i64 cur] 3))) hxb)))
   have HD1:=Hdz hD1
   have HKK:=Hdz ((hkk.out.trans (WkK.of_below hb1)).trans (WkK.of_below hbb))
   clear hw1 hw2 hdr' hwk0 hD1 hwk hkk hIt hcell hcl hb1 hbb bn
   go_wp2_with (at_builtin;go_must (refine wpList_append_at rfl _ _ 35 rfl 0 3 i0 _ 1 8 Tryz.underlying35 hi hz0 hz1 hz2 rfl (by decide) _ D1.length (intsV D1) rfl HW2.out.1.dr ⟨w1.heap.size+1,0,none⟩ 1 1 [.int .i64 cur] rfl rfl (row_new1 _ _ _ _ (by simp)) (by simp [Value.oneCell']) (by unfold maxLen;omega) (by omega) (Nat.zero_le _) ?_))
   intro v4 w4 own4 hg4 hw4
   obtain ⟨h3,kk3⟩:=HW2.out.1.grownD (l:=[cur]) hg4 own4 (λ k hk=>by have:=hw4 k hk;simpa using this)
   have b4:=HW2.out.1.blkD hg4
   have z1:w4.cell? ⟨x.b,2,none⟩=some (.slice Ad D1.length cd):=b4.cell 2
   have z2:w4.frozen? ⟨x.b,2,none⟩=false:=b4.frozen 2
   have K4:Keeps (λ k=>(Value.slice Ad D1.length cd).ownBlock=some k\/k=x.b) ((w1.alloc (.cells #[.bool false,.slice none 0 0,.slice (some ⟨blk,off,none⟩) 1 dd] 285)).alloc (.cells #[.int .i64 cur] 3)) (w4.setCell ⟨x.b,2,none⟩ v4):=
    ((Keeps.refl (λ k=>(Value.slice Ad D1.length cd).ownBlock=some k\/k=x.b) _).grown hg4 (λ k hk _=>.inl hk)).setCell (p:=⟨x.b,2,none⟩) (λ _=>.inr rfl) _
   have bn5:=HW2.out.2.1.keeps K4 (λ e=>by
    rcases e with e | e
    ·exact own_ne HW2.out.1.dr HW2.out.2.1 (by decide) _ e rfl
    ·have:=HW2.out.2.2.2;omega)
   have m2:(w4.setCell ⟨x.b,2,none⟩ v4).cell? ⟨w1.heap.size,2,none⟩=some (.slice (some ⟨blk,off,none⟩) 1 dd):=bn5.cell 2
   have hI5:=own_keeps HW2.out.2.2.1 K4 (λ k hk e=>by
    rcases e with e | e
    ·exact own_apart HW2.out.2.2.1 HW2.out.1.dr (by decide) k hk e
    ·exact own_ne HW2.out.2.2.1 HW2.out.1.blk (by decide) k hk e)
   obtain ⟨_,_,e5,_,_,hcl5⟩:=Sl.of_own hI5
   cases e5
   obtain ⟨_,_,e6,_,hcell5⟩:=hcl5 (by simp)
   cases e6
   have m1:(w4.setCell ⟨x.b,2,none⟩ v4).cell? ⟨blk,off+1,none⟩=some (.int .i64 y.page):=hcell5 1 _ rfl
   have HE:=Hdz (Anz h3 (HKK.out.trans ((WkK.of_below ((Below.refl _ _).alloc (Nat.le_refl _) _)).trans kk3)))
   have hwd:IntKind.i64.wrap ((done.length:Int)+1+1)=(done.length:Int)+1+1:=IntWalk.i64_in _ (by omega)
   obtain ⟨A4,c4,rfl,-⟩:=Sl.of_own own4
   clear own4 hg4 hw4 h3 kk3 b4 K4 bn5 hI5 hcl5 hcell5
   go_wp2_with (fail)
   go_roundg (gk-1)
   case measure=>omega
   case rel=>exact ⟨y.page,done++[cur],d,_,rfl,by simp,by omega,by
    show _=_
    rw [<- hdr.out,HR.out.2]
    simp,HR.out.1,by
    show WkOk _ _ _ _ _ _ _ _
    rw [<- List.append_assoc,HD1.out]
    exact HE.out.1,HE.out.2⟩
end
end Go.Ev
