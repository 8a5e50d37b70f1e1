/-
  Texts of this claim.
-/
import Derived.Test.YtmfoiaaehkandaaGreatDoorMOGwInts
import Derived.Test.YtmfoiaaehkandaaGreatDoorMOGwLeaves
set_option linter.unusedVariables false
set_option linter.unusedSimpArgs false
set_option maxHeartbeats 2000000
set_option maxRecDepth 100000
namespace Go.Ev
open Go.Proofs Go.RowKit
def BrP1 (p:Nat) (x:Wc) (most:Nat) (M:Store) (cnt:Nat) (made dropped:List Int) (k:Bytes) (L:List Child) (w:World) (e:Ending) (w':World):Prop:=
 ∃ id x' v,e=.returned (.tuple #[v,.int .i64 0])/\M id=none/\2<=id/\id<=100000/\OwnsC w' w.heap.size v [⟨k,id⟩]/\(∀ k,v.ownBlock=some k->¬ x'.S p k) ∧
  WkOk w' p x' most (updS M id (some ⟨3,0,layC L⟩)) (cnt+1) (made++[id]) dropped/\WkK p x x' w w'
theorem putC_fit {l:List Child} (hr:rightC l=true) (hs:(layC l).length<=240):putC l=(layC l,0):=by
 unfold putC
 simp [hr]
 omega
theorem putC_long {l:List Child} (hr:rightC l=true) (hs:240<(layC l).length):putC l=([],2):=by
 unfold putC
 simp [hr,hs]
theorem sl_child1 (w:World) (c0:Child):Sl (w.alloc (.cells #[strV c0.key,.int .i64 c0.page] 291)) 2 (.slice (some ⟨w.heap.size,0,none⟩) 1 1) 1 (childrenCs [c0]):=Sl.of_own (own_child1 w c0.key c0.page)
section
variable {p most cnt:Nat} {x:Wc} {M:Store} {made dropped:List Int} {w w':World}
theorem branches1_ok (A:Option Addr) (n c:Nat) (c0:Child) (r L:List Child) (h:WkOk w p x most M cnt made dropped) (hv:Sl w 2 (.slice A n c) n (childrenCs (c0 :: r))) (hL:L=headKey [] (c0 :: r)) (ho:ChildrenOk L) (hr:rightC L=true) (hs:(layC L).length<=240) (hn:n<=10000) (hroom:cnt+3<=most) (hmd:made.length<=100000) :
  Calls Tryz.prog 206 #[ptrV x.b,.slice A n c] w (BrP1 p x most M cnt made dropped c0.key L w):=by
 have hl:=hv.len2
 have hlt0:0<n:=by rw [<- hl];simp
 have HR:Hid (∀ W,Below w.heap.size w W->Calls Tryz.prog 204 #[.slice A n c,.int .i64 0,.slice (some ⟨W.heap.size,0,none⟩) 1 1] (W.alloc (.cells #[strV c0.key,.int .i64 c0.page] 291)) (ReplPost L (W.alloc (.cells #[strV c0.key,.int .i64 c0.page] 291)))):=by
  intro W hW
  have:=replC_any A (some ⟨W.heap.size,0,none⟩) n c 1 1 0 (c0 :: r) [c0] _ ((hv.below hW).alloc (.cells #[strV c0.key,.int .i64 c0.page] 291)) (sl_child1 W c0) (λ e=>by cases e) hn (by omega) hlt0
  rw [hL]
  exact this
 obtain ⟨blk,off,hAe,hbl,hcell⟩:∃ blk off,A=some ⟨blk,off,none⟩/\blk<w.heap.size/\∀ j u,(childrenCs (c0 :: r))[j]? = some u->w.cell? ⟨blk,off+j,none⟩=some u:=by
  obtain ⟨_,_,e0,_,_,hcl⟩:=id hv
  cases e0
  exact hcl hlt0
 subst hAe
 have y0:w.cell? ⟨blk,off,none⟩=some (strV c0.key):=hcell 0 _ rfl
 have y1:w.cell? ⟨blk,off+1,none⟩=some (.int .i64 c0.page):=hcell 1 _ rfl
 have HP:Hid (∀ (W:World) (A1:Option Addr) (n1 c1:Nat),Sl W 2 (.slice A1 n1 c1) n1 (childrenCs L)->Calls Tryz.prog 242 #[.slice A1 n1 c1] W λ e w'=>e=.returned (.tuple #[strV (layC L),.int .i64 0])/\Below W.heap.size W w'):=by
  intro W A1 n1 c1 q
  have:=putC_any A1 n1 c1 L W q ho
  unfold PutCPost at this
  rwa [putC_fit hr hs] at this
 have HPg:=Hdz (λ (W:World) (hW:WkOk W p x most M cnt made dropped)=>page_any ⟨3,0,layC L⟩ hW ⟨by simp,by simp,by simp,by simp,hs⟩ rfl hroom hmd)
 have HH:=Hdz h
 clear hcell h hv ho hr hL hl
 go_enter Tryz.func206,Tryz.ntmps206
 go_wp2_with (fail)
 go_must (refine (HR.out _ (Below.refl _ _)).mono ?_)
 rintro e w1 ⟨v1,rfl,hown,hb1⟩
 unfold OwnsC at hown
 obtain ⟨m,hm⟩:=nmz (L.length)
 rw [hm] at hown
 obtain ⟨A1,c1,rfl,_⟩:=Sl.of_own hown
 have hP1:=Hdz (HP.out w1 A1 m c1 (Sl.of_own hown))
 have hbw:Below w.heap.size w w1:=((Below.refl _ w).alloc (Nat.le_refl _) _).trans (hb1.mono (by simp))
 have HH1:=Hdz (HH.out.below hbw)
 clear hown
 go_wp2_with (fail)
 go_must (refine hP1.out.mono ?_)
 rintro e w2 ⟨rfl,hb2⟩
 have HH2:=Hdz (HH1.out.below hb2)
 have HB2:=Hdz (hbw.trans (hb2.mono hbw.size))
 go_wp2_with (fail)
 go_must (refine (HPg.out w2 HH2.out).mono ?_)
 rintro e w3 ⟨id,x',rfl,hid,hid2,hid3,hW,hK⟩
 have HE:Hid (BrP1 p x most M cnt made dropped c0.key L w (.returned (.tuple #[.slice (some ⟨w3.heap.size,0,none⟩) 1 1,.int .i64 0])) (w3.alloc (.cells #[strV c0.key,.int .i64 id] 291))):=
  ⟨id,x',_,rfl,hid,hid2,hid3,own_base (own_child1 w3 c0.key id) (by have:=HB2.out.size;have:=hK.keeps.size;omega),λ k hk hs=>by
   simp only [Value.ownBlock,Option.some.injEq] at hk
   have:=hW.lt k hs
   omega,hW.alloc _,((WkK.of_below HB2.out).trans hK).trans (WkK.of_below ((Below.refl _ _).alloc (Nat.le_refl _) _))⟩
 clear hW hK
 go_wp2_with (fail)
 refine bodyPost_ret (v:=.tuple #[.slice (some ⟨w3.heap.size,0,none⟩) 1 1,.int .i64 0]) (by simp [results,Tryz.results206,go_sem]) rfl ?_
 exact HE.out
def BrP2 (p:Nat) (x:Wc) (most:Nat) (M:Store) (cnt:Nat) (made dropped:List Int) (k1 k2:Bytes) (La Lb:List Child) (w:World) (e:Ending) (w':World):Prop:=
 ∃ i1 i2 x' v,e=.returned (.tuple #[v,.int .i64 0])/\M i1=none/\2<=i1/\i1<=100000/\updS M i1 (some ⟨3,0,layC La⟩) i2=none/\2<=i2/\i2<=100000/\OwnsC w' w.heap.size v [⟨k1,i1⟩,⟨k2,i2⟩]/\(∀ k,v.ownBlock=some k->¬ x'.S p k) ∧
  WkOk w' p x' most (updS (updS M i1 (some ⟨3,0,layC La⟩)) i2 (some ⟨3,0,layC Lb⟩)) (cnt+2) (made++[i1,i2]) dropped/\WkK p x x' w w'
theorem branches2_ok (A:Option Addr) (n c:Nat) (c0:Child) (r L:List Child) (z y:Child) (ra rb La Lb:List Child) (h:WkOk w p x most M cnt made dropped) (hv:Sl w 2 (.slice A n c) n (childrenCs (c0 :: r))) (hL:L=headKey [] (c0 :: r)) (ho:ChildrenOk L) (hr:rightC L=true) (hs:240<(layC L).length) (hn:n<=10000)
  (hsp:splitC L=(z :: ra,y :: rb)) (hLa:La=headKey [] (z :: ra)) (hLb:Lb=headKey [] (y :: rb)) (hoa:ChildrenOk La) (hob:ChildrenOk Lb) (hra:rightC La=true) (hrb:rightC Lb=true) (hsa:(layC La).length<=240) (hsb:(layC Lb).length<=240) (hroom:cnt+4<=most) (hmd:made.length+1<=100000) (hna:ra.length<=9000) (hnb:rb.length<=9000) :
  Calls Tryz.prog 206 #[ptrV x.b,.slice A n c] w (BrP2 p x most M cnt made dropped c0.key y.key La Lb w):=by
 obtain ⟨i0,hi,hz0,hz1,hz2⟩:=info_parts infoC
 have hl:=hv.len2
 have hlt0:0<n:=by rw [<- hl];simp
 have hLn:L.length<=10000:=by
  have:(headKey [] (c0 :: r)).length=(c0 :: r).length:=by simp [headKey]
  rw [hL]
  omega
 have HR:Hid (∀ W,Below w.heap.size w W->Calls Tryz.prog 204 #[.slice A n c,.int .i64 0,.slice (some ⟨W.heap.size,0,none⟩) 1 1] (W.alloc (.cells #[strV c0.key,.int .i64 c0.page] 291)) (ReplPost L (W.alloc (.cells #[strV c0.key,.int .i64 c0.page] 291)))):=by
  intro W hW
  have:=replC_any A (some ⟨W.heap.size,0,none⟩) n c 1 1 0 (c0 :: r) [c0] _ ((hv.below hW).alloc (.cells #[strV c0.key,.int .i64 c0.page] 291)) (sl_child1 W c0) (λ e=>by cases e) hn (by omega) hlt0
  rw [hL]
  exact this
 obtain ⟨blk,off,hAe,hbl,hcell⟩:∃ blk off,A=some ⟨blk,off,none⟩/\blk<w.heap.size/\∀ j u,(childrenCs (c0 :: r))[j]? = some u->w.cell? ⟨blk,off+j,none⟩=some u:=by
  obtain ⟨_,_,e0,_,_,hcl⟩:=id hv
  cases e0
  exact hcl hlt0
 subst hAe
 have y0:w.cell? ⟨blk,off,none⟩=some (strV c0.key):=hcell 0 _ rfl
 have y1:w.cell? ⟨blk,off+1,none⟩=some (.int .i64 c0.page):=hcell 1 _ rfl
 have HP:Hid (∀ (W:World) (A1:Option Addr) (n1 c1:Nat),Sl W 2 (.slice A1 n1 c1) n1 (childrenCs L)->Calls Tryz.prog 242 #[.slice A1 n1 c1] W λ e w'=>e=.returned (.tuple #[strV [],.int .i64 2])/\Below W.heap.size W w'):=by
  intro W A1 n1 c1 q
  have:=putC_any A1 n1 c1 L W q ho
  unfold PutCPost at this
  rwa [putC_long hr hs] at this
 have HSp:Hid (∀ (W:World) (A1:Option Addr) (n1 c1:Nat),n1<=90000->Sl W 2 (.slice A1 n1 c1) n1 (childrenCs L)->Calls Tryz.prog 243 #[.slice A1 n1 c1] W (SplitCPost L W)):=λ W A1 n1 c1 q0 q=>splitC_any A1 n1 c1 L W q ho q0
 have HL1:Hid (∀ (W:World) (A1:Option Addr) (na c1:Nat),na<=10000->WkOk W p x most M cnt made dropped->Sl W 2 (.slice A1 na c1) na (childrenCs (z :: ra))->Calls Tryz.prog 206 #[ptrV x.b,.slice A1 na c1] W (BrP1 p x most M cnt made dropped z.key La W)):=
  λ W A1 na c1 q0 q1 q2=>branches1_ok A1 na c1 z ra La q1 q2 hLa hoa hra hsa q0 (by omega) (by omega)
 have HL2:Hid (∀ (W:World) (A1:Option Addr) (na c1:Nat) (x1:Wc) (M1:Store) (made1:List Int),na<=10000->made1.length=made.length+1->WkOk W p x1 most M1 (cnt+1) made1 dropped->Sl W 2 (.slice A1 na c1) na (childrenCs (y :: rb))->Calls Tryz.prog 206 #[ptrV x1.b,.slice A1 na c1] W (BrP1 p x1 most M1 (cnt+1) made1 dropped y.key Lb W)):=
  λ W A1 na c1 x1 M1 made1 qn q0 q1 q2=>branches1_ok A1 na c1 y rb Lb q1 q2 hLb hob hrb hsb qn (by omega) (by omega)
 have HH:=Hdz h
 have HSP:=Hdz hsp
 clear hcell h hv ho hr hL hl hsp hLa hLb hoa hob hra hrb hsa hsb hs
 go_enter Tryz.func206,Tryz.ntmps206
 go_wp2_with (fail)
 go_must (refine (HR.out _ (Below.refl _ _)).mono ?_)
 rintro e w1 ⟨v1,rfl,hown,hb1⟩
 unfold OwnsC at hown
 obtain ⟨m,hm⟩:=nmz (L.length)
 rw [hm] at hown
 obtain ⟨A1,c1,rfl,_⟩:=Sl.of_own hown
 have hP1:=Hdz (HP.out w1 A1 m c1 (Sl.of_own hown))
 have hbw:Below w.heap.size w w1:=((Below.refl _ w).alloc (Nat.le_refl _) _).trans (hb1.mono (by simp))
 have HO1:=Hdz hown
 clear hown
 go_wp2_with (fail)
 go_must (refine hP1.out.mono ?_)
 rintro e w2 ⟨rfl,hb2⟩
 have HS2:=Hdz (HSp.out w2 A1 m c1 (by omega) ((Sl.of_own HO1.out).below hb2))
 have hbw2:=hbw.trans (hb2.mono hbw.size)
 go_wp2_with (fail)
 go_must (refine HS2.out.mono ?_)
 rintro e w3 ⟨va,vb,rfl,oa,ob,hb3⟩
 rw [HSP.out] at oa ob
 simp only at oa ob
 obtain ⟨na,hnaE⟩:=nmz ((z :: ra).length)
 obtain ⟨nb,hnbE⟩:=nmz ((y :: rb).length)
 have hna9:na<=10000:=by rw [<- hnaE];simp;omega
 have hnb9:nb<=10000:=by rw [<- hnbE];simp;omega
 have hnb1:¬ nb=0:=by rw [<- hnbE];simp
 have hnbB:((nb:Int)==0)=false:=by simp;omega
 rw [hnaE] at oa
 rw [hnbE] at ob
 obtain ⟨Aa,ca,rfl,_⟩:=Sl.of_own oa
 obtain ⟨Ab,cb,rfl,_⟩:=Sl.of_own ob
 have hbw3:=hbw2.trans (hb3.mono hbw2.size)
 have hs3:=hbw3.size
 have hW3:=HH.out.below hbw3
 have HK3:=Hdz (WkK.of_below (p:=p) (x:=x) hbw3)
 have hC1:=Hdz (HL1.out w3 Aa na ca hna9 hW3 (Sl.of_own oa))
 have hsz2:=hbw2.size
 have OB:=Hdz ob
 clear hW3 oa ob hnaE hnbE
 go_wp2_with (fail)
 go_must (refine hC1.out.mono ?_)
 rintro e w4 ⟨id1,x1,v13,rfl,hm1,hl1,hu1,own13,hns13,hW4,hK4⟩
 have ob4:=own_keeps OB.out hK4.keeps (λ k hk hs=>by have:=HH.out.lt k hs;have:=(OB.out.lt k hk).1;omega)
 have hC2:=Hdz (HL2.out w4 Ab nb cb x1 _ _ hnb9 (by simp) hW4 (Sl.of_own ob4))
 have hxb:=hK4.same
 have hs4:=hK4.keeps.size
 unfold OwnsC at own13
 rcases own13.2 with ⟨_,h0⟩ | ⟨g,cap,cur,rfl,hgb,hheap,hnc,hcm,hcs,hcx⟩
 ·cases h0
 rw [hxb] at hC2
 go_wp2_with (fail)
 go_must (refine hC2.out.mono ?_)
 rintro e w5 ⟨id2,x2,v15,rfl,hm2,hl2,hu2,own15,hns15,hW5,hK5⟩
 unfold OwnsC at own15
 have hs5:=hK5.keeps.size
 have own135:=own_keeps own13 hK5.keeps hns13
 have hgS:¬ x2.S p g:=λ hs=>by
  rcases hK5.sub g hs with h1 | h1
  ·exact hns13 g rfl h1
  ·have:=(own13.lt g rfl).2;omega
 rcases own15.2 with ⟨_,h0⟩ | ⟨g5,cap5,cur5,rfl,hgb5,hheap5,hnc5,hcm5,hcs5,hcx5⟩
 ·cases h0
 obtain ⟨u0,d0⟩:∃ u,w5.cell? ⟨g,0,none⟩=some u:=by
  rcases own135.2 with ⟨e0,_⟩ | ⟨g',cap',cur',e0,_,hh,hn',_,hc',_⟩
  ·cases e0
  ·simp only [Value.slice.injEq,Option.some.injEq,Addr.mk.injEq,and_true,true_and] at e0
   obtain ⟨rfl,rfl⟩:=e0
   exact ⟨_,by rw [cell_of_row w5 g _ cur' _ (0,0) hh];exact Array.getElem?_eq_getElem (by simp at hn';omega)⟩
 have f0:=own135.frozenAt 0
 obtain ⟨q13,_⟩:=own135.stored 0 (strV c0.key)
 have hglt:=(own13.lt g rfl).2
 have hglo:=(own13.lt g rfl).1
 have hg5:=(own15.lt g5 rfl).1
 have hgne:∀ k,(Value.slice (some ⟨g5,0,none⟩) 1 cap5).ownBlock=some k->k≠g:=λ k hk e=>by
  simp only [Value.ownBlock,Option.some.injEq] at hk
  omega
 have K5:Keeps (λ k=>k=g) w5 (w5.setCell ⟨g,0,none⟩ (strV c0.key)):=(Keeps.refl (λ k=>k=g) _).setCell (p:=⟨g,0,none⟩) (λ _=>rfl) _
 have own155:=own_keeps own15 K5 hgne
 have hW6:=hW5.keeps K5 (λ k hk e=>hgS (e ▸ hk))
 have hnews:∀ j u,(childCs ⟨y.key,id2⟩)[j]? = some u->(w5.setCell ⟨g,0,none⟩ (strV c0.key)).cell? ((⟨g5,0,none⟩:Addr).add j)=some u:=by
  obtain ⟨_,_,e0,_,_,hcl⟩:=Sl.of_own own155
  cases e0
  obtain ⟨b',o',e1,_,hcl2⟩:=hcl (by simp)
  cases e1
  intro j u hu
  rw [addr_add]
  refine hcl2 j u ?_
  rw [<- hu]
  rfl
 have q13':(w5.setCell ⟨g,0,none⟩ (strV c0.key)).ownsRow w3.heap.size 291 2 (.slice (some ⟨g,0,none⟩) 1 cap) 1 (childrenCs [⟨c0.key,id1⟩]):=q13
 have hs6:=K5.size
 have hb6:w3.heap.size<=(w5.setCell ⟨g,0,none⟩ (strV c0.key)).heap.size:=by omega
 have hsz:(w5.setCell ⟨g,0,none⟩ (strV c0.key)).heap.size=w5.heap.size:=by simp [World.setCell]
 have HK6:=Hdz (((HK3.out.trans hK4).trans hK5).fresh K5 (λ k hk=>by rw [hk];omega))
 have HW6:=Hdz hW6
 have HO6:=Hdz q13'
 have HN:=Hdz hnews
 clear q13 q13' hnews hW6 hW5 hW4 own13 own15 own135 own155 hcx hcs hheap hcx5 hcs5 hheap5 K5 hC2 hC1 HP HSp HL1 HL2 hK4 hK5
 go_wp2_with (at_builtin;go_must (refine wpList_append_at rfl _ _ 240 rfl w3.heap.size 291 i0 _ 2 24 Tryz.underlying240 hi hz0 hz1 hz2 rfl (by decide) _ 1 (childrenCs [⟨c0.key,id1⟩]) rfl HO6.out ⟨g5,0,none⟩ 1 cap5 (childCs ⟨y.key,id2⟩) rfl rfl HN.out (by simp [childCs,Value.oneCell']) (by unfold maxLen;omega) (by omega) hb6 ?_))
 intro v6 w6 own6 hg6 hw6
 have K6:Keeps (λ k=>(Value.slice (some ⟨g,0,none⟩) 1 cap).ownBlock=some k) (w5.setCell ⟨g,0,none⟩ (strV c0.key)) w6:=(Keeps.refl (λ k=>(Value.slice (some ⟨g,0,none⟩) 1 cap).ownBlock=some k) _).grown hg6 (λ k hk _=>hk)
 have hgS6:∀ k,(Value.slice (some ⟨g,0,none⟩) 1 cap).ownBlock=some k->¬ x2.S p k:=λ k hk hs=>by
  simp only [Value.ownBlock,Option.some.injEq] at hk
  exact hgS (hk ▸ hs)
 have hW6:=HW6.out.keeps K6 (λ k hk e=>hgS6 k e hk)
 have hK6:=HK6.out.fresh K6 (λ k hk=>by have:=(HO6.out.lt k hk).1;omega)
 have HE:Hid (BrP2 p x most M cnt made dropped c0.key y.key La Lb w (.returned (.tuple #[v6,.int .i64 0])) w6):=by
  refine ⟨id1,id2,x2,v6,rfl,hm1,hl1,hu1,hm2,hl2,hu2,own_base own6 (by omega),λ k hk hs=>?_,by simpa using hW6,hK6⟩
  rcases hw6 k hk with h1 | h1
  ·exact hgS6 k h1 hs
  ·have:=HW6.out.lt k hs;rw [hsz] at this;omega
 clear own6 hg6 hw6 K6 hW6 hK6
 go_wp2_with (fail)
 refine bodyPost_ret (v:=.tuple #[v6,.int .i64 0]) (by simp [results,Tryz.results206,go_sem]) rfl ?_
 exact HE.out
end
open Go.Shelf
attribute [local go_sem] Oper.semAt_some
def KB (Bs b:Nat) (W W':World):Prop:=W'.heap[Bs]? = W.heap[Bs]?/\W'.heap[b]? = W.heap[b]?
theorem KB.refl (Bs b:Nat) (W:World):KB Bs b W W:=⟨rfl,rfl⟩
theorem KB.trans {Bs b:Nat} {A B C:World} (h:KB Bs b A B) (k:KB Bs b B C):KB Bs b A C:=⟨k.1.trans h.1,k.2.trans h.2⟩
theorem stepsCs_at:∀ (l:List Step) (k j:Nat) (hk:k<l.length),j<3->(stepsCs l)[k*3+j]? = (stepCs l[k])[j]?
 | x :: l,0,j,_,hj=>by
  simp only [stepsCs,Nat.zero_mul,Nat.zero_add,List.getElem_cons_zero]
  rw [List.getElem?_append_left (by simp [stepCs];omega)]
 | x :: l,k+1,j,hk,hj=>by
  simp only [stepsCs,List.getElem_cons_succ]
  rw [List.getElem?_append_right (by simp [stepCs];omega),<- stepsCs_at l k j (by simpa using hk) hj]
  congr 1
  simp [stepCs]
  omega
def backs (n:Nat):List (Fin n):=(List.finRange n).reverse
theorem backs_len (n:Nat):(backs n).length=n:=by simp [backs]
theorem backs_at (n k:Nat) (h:k<n):(backs n)[k]? = some ⟨n-1-k,by omega⟩:=by
 unfold backs
 rw [List.getElem?_reverse (by simpa using h),List.length_finRange,List.getElem?_eq_getElem (by simp;omega),List.getElem_finRange]
 rfl
def stepV (s:Step):Value:=.agg #[.int .i64 s.id,.int .i64 s.at',s.v]
theorem back1_nil_in (F:Fence) (n:Nat) (hf:F.fn 239) (hro:F.round=none) (l Bs c:Nat) (A:Option Addr) (J:Nat->World->Prop) (W:World) (hBs:W.cell? ⟨Bs,0,none⟩=some (.slice A 0 c)) (h0:J 0 W) :
  CallsIn F n Tryz.prog 239 #[.func (.yield l) #[] #[],.pointer (some ⟨Bs,0,none⟩)] W λ e W'=>(∃ v,e=.returned v)/\J 0 W':=by
 refine callsIn_of_wp Tryz.func239 rfl hf ?_ hro
 simp only [Tryz.ntmps239,List.size_toArray,List.length_cons,List.length_nil,Nat.reduceAdd,Nat.reduceSub,Array.replicate_succ,Array.replicate_zero,List.push_toArray,List.append_toArray,List.nil_append,List.cons_append]
 gi_wp2
 gi_loopw [3] (λ i wr=>i=.int .i64 (-1)/\J 0 wr) (λ _ _=>0)
 case atStart=>exact ⟨rfl,h0⟩
 case round =>
  obtain ⟨rfl,hJs⟩:=hrel
  gi_wp2
  go_end0
  exact ⟨⟨_,rfl⟩,hJs⟩
theorem backward_in (F:Fence) (n:Nat) (hf:F.fn 203) (hro:F.round=none) (a:Option Addr) (len cap:Nat) (w:World) :
  CallsIn F n Tryz.prog 203 #[.slice a len cap] w λ e w'=>e=.returned (.func (.func 239) #[] #[.pointer (some ⟨w.heap.size,0,none⟩)])/\w'=w.alloc (.cells #[.slice a len cap] 216):=by
 refine callsIn_of_wp Tryz.func203 rfl hf ?_ hro
 simp only [Tryz.ntmps203,List.size_toArray,List.length_cons,List.length_nil,Nat.reduceAdd,Nat.reduceSub,Array.replicate_succ,Array.replicate_zero,List.push_toArray,List.append_toArray,List.nil_append,List.cons_append]
 gi_wp2
 go_ret
 exact ⟨rfl,rfl⟩
end Go.Ev
namespace Go.Ev
open Go.Proofs Go.RowKit
theorem cells_of_cell {w:World} {b o:Nat} {v:Value} (h:w.cell? ⟨b,o,none⟩=some v):∃ x,w.heap[b]? = some x/\x.isCells=true:=by
 unfold World.cell? at h
 cases hb:w.heap[b]? with
 | none=>simp [hb] at h
 | some x =>
  refine ⟨x,rfl,?_⟩
  cases x<;>simp [hb] at h ⊢ <;> rfl
theorem own_cells {w:World} {base z n:Nat} {e:TypeId} {v:Value} {xs:List Value} (h:w.ownsRow base e z v n xs):∀ k,v.ownBlock=some k->∃ x,w.heap[k]? = some x/\x.isCells=true:=by
 intro k hk
 rcases h.2 with ⟨rfl,_⟩ | ⟨g,cap,cur,rfl,_,hg,_⟩
 ·cases hk
 ·simp only [Value.ownBlock,Option.some.injEq] at hk
  subst hk
  exact ⟨_,hg,rfl⟩
section
variable {p most cnt:Nat} {x:Wc} {c:Pc} {M:Store} {made dropped:List Int} {w w':World}
theorem PgOk.cells (h:PgOk w p c most M cnt):∀ k,c.S p k->(k=c.mb\/k=c.db\/k=c.wb)\/∃ o,w.heap[k]? = some o/\o.isCells=true:=by
 obtain ⟨n,mm,was,mc,wc,dc,spare,h,_⟩:=h
 rintro k (hk | hk | hk | hk)
 ·simp only [Pc.ids,List.mem_cons,List.not_mem_nil,or_false] at hk
  rcases hk with rfl | rfl | rfl | rfl | rfl | rfl | rfl
  ·exact .inr ⟨_,h.blk,rfl⟩
  ·exact .inr ⟨_,h.dev.blk,rfl⟩
  ·exact .inr ⟨_,h.fre,rfl⟩
  ·exact .inr (cells_of_cell h.spr.1)
  ·exact .inl (.inl rfl)
  ·exact .inl (.inr (.inl rfl))
  ·exact .inl (.inr (.inr rfl))
 ·exact .inr (own_cells h.spr.2.2.2.1 k hk)
 ·obtain ⟨cs,hr⟩:=h.dev.srow;exact .inr (own_cells hr k hk)
 ·obtain ⟨cs,hr⟩:=h.dev.nrow;exact .inr (own_cells hr k hk)
def Pc.maps (c:Pc) (B:Nat):Prop:=c.mb<B/\c.db<B/\c.wb<B
theorem WkOk.cells (h:WkOk w p x most M cnt made dropped):∀ k,x.S p k->(k=x.c.mb\/k=x.c.db\/k=x.c.wb)\/∃ o,w.heap[k]? = some o/\o.isCells=true:=by
 rintro k (h1 | rfl | h1 | h1)
 ·exact h.pg.cells k h1
 ·exact .inr ⟨_,h.blk,rfl⟩
 ·exact .inr (own_cells h.mo k h1)
 ·exact .inr (own_cells h.dr k h1)
theorem WkOk.turn {B:Nat} {row:Option Nat} (h:WkOk w p x most M cnt made dropped) (hm:x.c.maps B) (hg:w.grownBy w' row) (hr:∀ r,row=some r->B<=r/\∃ o:Obj,w.heap[r]? = some o/\o.isCells=false):WkOk w' p x most M cnt made dropped:=by
 refine h.keeps ((Keeps.refl (λ k=>row=some k) w).grown hg (λ _ e _=>e)) λ k hk e=>?_
 obtain ⟨h1,o,h2,h3⟩:=hr k e
 rcases h.cells k hk with hh | ⟨o',h4,h5⟩
 ·obtain ⟨m1,m2,m3⟩:=hm
  rcases hh with rfl | rfl | rfl<;>omega
 ·rw [h2] at h4
  cases h4
  rw [h3] at h5
  cases h5
structure FitC (L:List Child):Prop where
 ok:ChildrenOk L
 right:rightC L=true
 few:L.length<=9000
 fit:(layC L).length<=240\/240<(layC L).length/\∃ z ra y rb,splitC L=(z :: ra,y :: rb)/\ChildrenOk (headKey [] (z :: ra))/\ChildrenOk (headKey [] (y :: rb))/\rightC (headKey [] (z :: ra))=true/\rightC (headKey [] (y :: rb))=true ∧
  (layC (headKey [] (z :: ra))).length<=240/\(layC (headKey [] (y :: rb))).length<=240/\ra.length<=9000/\rb.length<=9000
theorem ChildrenOk.of {L:List Child} (hf:∀ x∈L,x.fit=true) (hl:(layC L).length<=400):ChildrenOk L:=
 ⟨λ x hx=>by have:=Child.fit_iff.1 (hf x hx);omega,λ x hx=>by have:=Child.fit_iff.1 (hf x hx);exact ⟨by omega,by omega⟩,by omega,by have:=layC_len L;omega⟩
theorem FitC.of {L:List Child} (h:FitP L):FitC L:=by
 refine ⟨.of (rightC_fit h.right) h.len,h.right,by have:=layC_len L;have:=h.len;omega,?_⟩
 rcases h.fit with h1 | ⟨h1,z,ra,y,rb,h2,h3,h4,h5,h6,h7,h8⟩
 ·exact .inl h1
 ·have q1:=layC_len (headKey [] (z :: ra))
  have q2:=layC_len (headKey [] (y :: rb))
  simp only [headKey_len,List.length_cons] at q1 q2
  exact .inr ⟨h1,z,ra,y,rb,h2,.of (rightC_fit h3) (by omega),.of (rightC_fit h4) (by omega),h3,h4,h5,h6,by omega,by omega⟩
def BrP (p:Nat) (x:Wc) (most:Nat) (M:Store) (cnt:Nat) (made dropped:List Int) (k:Bytes) (L:List Child) (w:World) (e:Ending) (w':World):Prop:=
 ∃ kids M' new x' v,e=.returned (.tuple #[v,.int .i64 0])/\Laid M k L kids M' new/\OwnsC w' w.heap.size v kids/\(∀ k,v.ownBlock=some k->¬ x'.S p k)/\WkOk w' p x' most M' (cnt+new.length) (made++new) dropped/\WkK p x x' w w'
theorem branches_any (A:Option Addr) (n c:Nat) (c0:Child) (r L:List Child) (h:WkOk w p x most M cnt made dropped) (hv:Sl w 2 (.slice A n c) n (childrenCs (c0 :: r))) (hL:L=headKey [] (c0 :: r)) (hf:FitC L) (hn:n<=10000) (hroom:cnt+4<=most) (hmd:made.length+1<=100000) :
  Calls Tryz.prog 206 #[ptrV x.b,.slice A n c] w (BrP p x most M cnt made dropped c0.key L w):=by
 rcases hf.fit with hs | ⟨hs,z,ra,y,rb,h1,h2,h3,h4,h5,h6,h7,h8,h9⟩
 ·refine (branches1_ok A n c c0 r L h hv hL hf.ok hf.right hs hn (by omega) (by omega)).mono ?_
  rintro e w' ⟨id,x',v,rfl,k1,k2,k3,k4,k5,k6,k7⟩
  exact ⟨_,_,[id],x',v,rfl,.inl ⟨id,hs,k1,k2,k3,rfl,rfl,rfl⟩,k4,k5,k6,k7⟩
 ·refine (branches2_ok A n c c0 r L z y ra rb _ _ h hv hL hf.ok hf.right hs hn h1 rfl rfl h2 h3 h4 h5 h6 h7 hroom hmd h8 h9).mono ?_
  rintro e w' ⟨i1,i2,x',v,rfl,k1,k2,k3,k4,k5,k6,k7,k8,k9,k10⟩
  exact ⟨_,_,[i1,i2],x',v,rfl,.inr ⟨z,ra,y,rb,i1,i2,hs,h1,k1,k2,k3,k4,k5,k6,rfl,rfl,rfl⟩,k7,k8,k9,k10⟩
end
theorem isKey_any (s:Bytes) (w:World) (hs:s.length<=9223372036854775807):Calls Tryz.prog 132 #[strV s] w λ e w'=>e=.returned (.bool (decide (1<=s.length) && decide (s.length<=40)))/\w=w':=by
 cases s with
 | nil =>
  go_enter Tryz.func132,Tryz.ntmps132
  go_wp2
  go_ret
  exact ⟨rfl,rfl⟩
 | cons x s =>
  obtain ⟨n,hn⟩:=nmz ((x :: s).length)
  have h1:1<=n:=by rw [<- hn];simp
  have he:((x :: s)==([]:Bytes))=false:=rfl
  rw [hn]
  by_cases h40:n<=40
  ·have h40':(n:Int)<=40:=by omega
   go_enter Tryz.func132,Tryz.ntmps132
   go_wp2
   go_ret
   exact ⟨by simp [h1,h40],rfl⟩
  ·have h40':¬ (n:Int)<=40:=by omega
   go_enter Tryz.func132,Tryz.ntmps132
   go_wp2
   go_ret
   exact ⟨by simp [h1,h40],rfl⟩
section
variable {p most cnt:Nat} {c:Pc} {x:Wc} {M:Store} {made dropped:List Int}
theorem value_ok (it:Item) (v:Bytes) (ids:List Int) (w:World) (h:PgOk w p c most M cnt) (hv:ValAt M it v ids) (hl:v.length<=2000) (hil:ids.length<=2000) :
  Calls Tryz.prog 135 #[ptrV p,.agg #[strV it.key,strV it.val,.int .i64 it.over,.int .i64 it.size]] w λ e w'=>e=.returned (.tuple #[strV v,.int .i64 0])/\Below w.heap.size w w':=by
 obtain ⟨ik,iv,io,isz⟩:=it
 have bx:Blk (w.alloc (.cells #[strV ik,strV iv,.int .i64 io,.int .i64 isz] 223)) w.heap.size 223 #[strV ik,strV iv,.int .i64 io,.int .i64 isz]:=Blk.new _ _ _
 have x1:(w.alloc (.cells #[strV ik,strV iv,.int .i64 io,.int .i64 isz] 223)).cell? ⟨w.heap.size,1,none⟩=some (strV iv):=bx.cell 1
 have x2:(w.alloc (.cells #[strV ik,strV iv,.int .i64 io,.int .i64 isz] 223)).cell? ⟨w.heap.size,2,none⟩=some (.int .i64 io):=bx.cell 2
 have x3:(w.alloc (.cells #[strV ik,strV iv,.int .i64 io,.int .i64 isz] 223)).cell? ⟨w.heap.size,3,none⟩=some (.int .i64 isz):=bx.cell 3
 have HB:=Hdz ((Below.refl _ w).alloc (Nat.le_refl _) (.cells #[strV ik,strV iv,.int .i64 io,.int .i64 isz] 223))
 rcases hv with ⟨ho,hv1,_⟩ | ⟨ho,hc,hsz⟩
 ·dsimp only at ho hv1
  subst ho
  subst hv1
  clear h
  go_enter Tryz.func135,Tryz.ntmps135
  go_wp2
  go_ret2
  exact ⟨rfl,HB.out⟩
 ·have HG:=Hdz (overGet_ok io v ids _ (h.alloc (.cells #[strV ik,strV iv,.int .i64 io,.int .i64 isz] 223)) hc hl hil)
  dsimp only at ho hc hsz
  have ho1:(io==0)=false:=by simpa using ho
  rw [hsz] at HG
  clear h hc hsz
  go_enter Tryz.func135,Tryz.ntmps135
  go_wp2_with (fail)
  go_must (refine HG.out.mono ?_)
  rintro e w1 ⟨rfl,hb1⟩
  go_wp2_with (fail)
  go_ret2
  exact ⟨rfl,HB.out.trans (hb1.mono (by simp))⟩
theorem old_none (A:Option Addr) (n cc:Nat) (l:List Item) (k:Bytes) (w:World) (hv:Sl w 4 (.slice A n cc) n (itemsCs l)) (hn:n<=100000) (hr:riseI l=true) (hk:isAt k l=false\/∃ it,l[ahead k l]? = some it/\it.over=0) :
  Calls Tryz.prog 144 #[ptrV x.b,.slice A n cc,strV k] w λ e w'=>e=.returned (.int .i64 0)/\Below w.heap.size w w':=by
 have hl:=hv.len4
 subst hl
 have HF:=Hdz (findI_any A l.length cc l k w hv hn hr)
 cases hat:isAt k l with
 | false =>
  rw [hat] at HF
  clear hv hr hk
  go_enter Tryz.func144,Tryz.ntmps144
  go_wp2_with (fail)
  go_must (refine HF.out.mono ?_)
  rintro e w1 ⟨rfl,hb1⟩
  go_wp2_with (fail)
  go_ret
  exact ⟨rfl,hb1⟩
 | true =>
  obtain ⟨it,h1,h2⟩:=hk.resolve_left (by rw [hat];simp)
  rw [hat] at HF
  have hlt:=(List.getElem?_eq_some_iff.1 h1).1
  have hHV:=Hdz (λ W (hb:Below w.heap.size w W)=>hv.below hb)
  clear hv hr hk
  go_enter Tryz.func144,Tryz.ntmps144
  go_wp2_with (fail)
  go_must (refine HF.out.mono ?_)
  rintro e w1 ⟨rfl,hb1⟩
  obtain ⟨_,_,e0,_,_,hcl⟩:=hHV.out w1 hb1
  cases e0
  obtain ⟨blk,off,rfl,hbl,hcell⟩:=hcl (by omega)
  obtain ⟨_,_,q2,_⟩:=item_4 (w:=w1) λ i u hu=>item_cells (n:=l.length) hcell hlt i u hu
  rw [List.getElem?_eq_getElem hlt,Option.some.injEq] at h1
  rw [h1,h2] at q2
  have hi0:(0:Int)<=(ahead k l:Int):=by omega
  have hil:(ahead k l:Int)<(l.length:Int):=by omega
  clear hcell hcl h1 h2
  go_wp2_with (fail)
  go_ret
  exact ⟨rfl,hb1⟩
theorem item_small (k v:Bytes) (w:World) (hv:v.length<=60) :
  Calls Tryz.prog 145 #[ptrV x.b,strV k,strV v] w λ e w'=>e=.returned (.tuple #[.agg #[strV k,strV v,.int .i64 0,.int .i64 0],.int .i64 0])/\Below w.heap.size w w':=by
 have hbn:Blk (w.alloc (.cells #[strV k,strV v,.int .i64 0,.int .i64 0] 223)) w.heap.size 223 #[strV k,strV v,.int .i64 0,.int .i64 0]:=Blk.new _ _ _
 have HB:=Hdz ((Below.refl w.heap.size w).alloc (Nat.le_refl _) (.cells #[strV k,strV v,.int .i64 0,.int .i64 0] 223))
 have hv1:(v.length:Int)<=60:=by omega
 go_enter Tryz.func145,Tryz.ntmps145
 go_wp2_with (fail)
 refine bodyPost_ret (res_row [strV k,strV v,.int .i64 0,.int .i64 0] rfl rfl rfl (by kernel_rfl) hbn) rfl ?_
 exact ⟨rfl,HB.out⟩
theorem ints_one (l:List Int):∀ u∈intsV l,u.oneCell'=true:=by
 intro u hu
 simp only [intsV,List.mem_map] at hu
 obtain ⟨i,_,rfl⟩:=hu
 rfl
def OldP (p:Nat) (x:Wc) (most:Nat) (M:Store) (cnt:Nat) (made dropped ids:List Int) (w:World) (e:Ending) (w':World):Prop:=
 e=.returned (.int .i64 0)/\∃ x',WkOk w' p x' most M cnt made (dropped++ids)/\WkK p x x' w w'
/-- The chain of an item falls away. -/
theorem old_chain (A:Option Addr) (n cc:Nat) (l:List Item) (k:Bytes) (it:Item) (v:Bytes) (ids:List Int) (w:World) (h:WkOk w p x most M cnt made dropped) (hv:Sl w 4 (.slice A n cc) n (itemsCs l)) (hn:n<=100000) (hr:riseI l=true) (hk:isAt k l=true) (hit:l[ahead k l]? = some it) (ho:it.over≠0)
  (hval:ValAt M it v ids) (hvl:v.length<=2000) (hil:ids.length<=2000) (hdl:dropped.length<=100000) :
  Calls Tryz.prog 144 #[ptrV x.b,.slice A n cc,strV k] w (OldP p x most M cnt made dropped ids w):=by
 obtain ⟨i0,hi,hz0,hz1,hz2⟩:=info_parts infoInt
 have hl:=hv.len4
 subst hl
 have HF:=Hdz (findI_any A l.length cc l k w hv hn hr)
 rw [hk] at HF
 obtain ⟨_,hch,hsz⟩:=hval.resolve_left (λ e=>ho e.1)
 have hids:0<ids.length:=by cases hch<;>simp
 have ho1:(it.over==0)=false:=by simpa using ho
 have hlt:=(List.getElem?_eq_some_iff.1 hit).1
 have hHV:=Hdz (λ W (hb:Below w.heap.size w W)=>hv.below hb)
 have HP:=Hdz (λ W (hb:Below w.heap.size w W)=>overPages_ok it.over v ids W (h.pg.below hb) hch hvl hil)
 rw [hsz] at HP
 have HH:=Hdz h
 clear hv hr hk h hval hch
 go_enter Tryz.func144,Tryz.ntmps144
 go_wp2_with (fail)
 go_must (refine HF.out.mono ?_)
 rintro e w1 ⟨rfl,hb1⟩
 obtain ⟨_,_,e0,_,_,hcl⟩:=hHV.out w1 hb1
 cases e0
 obtain ⟨blk,off,rfl,hbl,hcell⟩:=hcl (by omega)
 obtain ⟨_,_,q2,q3⟩:=item_4 (w:=w1) λ i u hu=>item_cells (n:=l.length) hcell hlt i u hu
 rw [List.getElem?_eq_getElem hlt,Option.some.injEq] at hit
 rw [hit] at q2 q3
 have hi0:(0:Int)<=(ahead k l:Int):=by omega
 have hil:(ahead k l:Int)<(l.length:Int):=by omega
 have g0:w1.cell? ⟨x.b,0,none⟩=some (ptrV p):=(HH.out.below hb1).blk.cell 0
 have hP1:=HP.out w1.drew hb1.drew
 clear hcell hcl hit
 go_wp2_with (fail)
 have HH1:=Hdz (HH.out.below hb1)
 have HP1:=Hdz hP1
 clear hP1
 refine wRz ?_
 try simp only [lAz]
 refine tA 0 ?_;try simp only [lAz]
 refine tA 1 ?_;try simp only [lAz]
 refine tA 2 ?_;try simp only [lAz]
 refine tA 4 ?_;try simp only [lAz]
 refine tA 5 ?_;try simp only [lAz]
 refine tA 6 ?_;try simp only [lAz]
 refine tA 7 ?_;try simp only [lAz]
 refine tA 9 ?_;try simp only [lAz]
 refine tA 10 ?_;try simp only [lAz]
 refine tA 11 ?_;try simp only [lAz]
 refine tA 12 ?_;try simp only [lAz]
 refine rA 3 (v:=?_) (hy:=?hy) ?_;case hy=>(intro w hE;have q0:=hE.cell g0;have q1:=hE.cell q2;have q2:=hE.cell q3;go_simp;try with_reducible rfl)
 try simp only [lAz]
 refine rA 8 (v:=?_) (hy:=?hy) ?_;case hy=>(intro w hE;have q0:=hE.cell g0;have q1:=hE.cell q2;have q2:=hE.cell q3;go_simp;try with_reducible rfl)
 try simp only [lAz]
 refine rA 13 (v:=?_) (hy:=?hy) ?_;case hy=>(intro w hE;have q0:=hE.cell g0;have q1:=hE.cell q2;have q2:=hE.cell q3;go_simp;try with_reducible rfl)
 try simp only [lAz]
 refine rZz 14 λ K hK=>?_;go_simp
 (go_must (refine HP1.out.mono ?_);rintro e w2 ⟨r,rfl,own2,hb2⟩)
 go_simp
 apply hK
 clear hK K
 refine rZz 15 λ K hK=>?_;go_simp;apply hK;clear hK K
 try simp only [lAz]
 refine tA 16 ?_;try simp only [lAz]
 refine tA 17 ?_;try simp only [lAz]
 refine rZz 18 λ K hK=>?_;go_simp;apply hK;clear hK K
 refine rZz 19 λ K hK=>?_;go_simp;apply hK;clear hK K
 refine wDz ?_
 have hW2:=(HH1.out.drew).below hb2
 have g2:w2.cell? ⟨x.b,2,none⟩=some x.dv:=hW2.blk.cell 2
 rcases own2.2 with ⟨_,h0⟩ | ⟨g,cap,cur,rfl,hgb,hheap,hnc,hcm,hcs,hcx⟩
 ·omega
 have hnews:∀ j u,(intsV ids)[j]? = some u->w2.cell? ((⟨g,0,none⟩:Addr).add j)=some u:=by
  obtain ⟨_,_,e1,_,_,hcl⟩:=Sl.of_own own2
  cases e1
  obtain ⟨b',o',e2,_,hcl2⟩:=hcl hids
  cases e2
  intro j u hu
  rw [addr_add]
  exact hcl2 j u hu
 have hm1:dropped.length+ids.length<=maxLen:=by unfold maxLen;omega
 have HW2:=Hdz hW2
 have HN:=Hdz hnews
 have HBB:=Hdz (hb1.drew.trans (hb2.mono hb1.size))
 clear hcx hcs hheap own2 hnews hW2
 go_wp2_with (at_builtin;go_must (refine wpList_append_at rfl _ _ 35 rfl 0 3 i0 _ 1 8 Tryz.underlying35 hi hz0 hz1 hz2 rfl (by decide) _ dropped.length (intsV dropped) rfl HW2.out.dr ⟨g,0,none⟩ ids.length cap (intsV ids) rfl (by simp [intsV]) HN.out (ints_one ids) hm1 (by omega) (by omega) ?_))
 intro v4 w4 own4 hg4 hw4
 obtain ⟨h3,kk3⟩:=HW2.out.grownD (l:=ids) hg4 own4 hw4
 have bb:=HW2.out.blkD hg4
 have z1:w4.cell? ⟨x.b,2,none⟩=some x.dv:=bb.cell 2
 have z2:w4.frozen? ⟨x.b,2,none⟩=false:=bb.frozen 2
 obtain ⟨A4,c4,rfl,_⟩:=Sl.of_own own4
 have HE:Hid (OldP p x most M cnt made dropped ids w (.returned (.int .i64 0)) (w4.setCell ⟨x.b,2,none⟩ (.slice A4 (dropped.length+ids.length) c4))):=⟨rfl,_,h3,(WkK.of_below HBB.out).trans kk3⟩
 clear own4 hg4 hw4 h3 kk3
 go_wp2_with (fail)
 go_ret
 exact HE.out
end
open Go.Shelf
attribute [local go_sem] Oper.semAt_some
theorem WkOk.notStep {p most cnt:Nat} {x:Wc} {M:Store} {made dropped:List Int} {w:World} {b:Nat} {i0:Int} {at' v:Value} (h:WkOk w p x most M cnt made dropped) (hb:Blk w b 289 #[.int .i64 i0,at',v]):¬ x.S p b:=by
 have hT:∀ {t:TypeId} {cs:Array Value},Blk w b t cs->t=289:=λ h1=>by
  unfold Blk at h1 hb
  rw [hb] at h1
  simp only [Option.some.injEq,Obj.cells.injEq] at h1
  exact h1.2.1.symm
 have hM:∀ {l:List Ent} {c:Nat},¬ MapI w b l c:=λ h1=>by
  unfold MapI at h1
  unfold Blk at hb
  rw [hb] at h1
  cases h1
 obtain ⟨n,mm,was,mc,wc,dc,spare,g,_⟩:=h.pg
 rintro ((hk | hk | hk | hk) | rfl | hk | hk)
 ·simp only [Pc.ids,List.mem_cons,List.not_mem_nil,or_false] at hk
  rcases hk with rfl | rfl | rfl | rfl | rfl | rfl | rfl
  ·exact absurd (hT g.blk) (by decide)
  ·exact absurd (hT g.dev.blk) (by decide)
  ·exact absurd (hT g.fre) (by decide)
  ·have h1:=g.spr.1
   have h2:w.cell? ⟨x.c.sb,0,none⟩=some (.int .i64 i0):=hb.cell 0
   rw [h1] at h2
   obtain ⟨A,c,e,_⟩:=Sl.of_own g.spr.2.2.2.1
   rw [Option.some.inj h2] at e
   cases e
  ·exact hM g.mad
  ·exact hM g.dro
  ·exact hM g.wwas
 ·exact own_ne g.spr.2.2.2.1 hb (by decide) _ hk rfl
 ·obtain ⟨cs,hr⟩:=g.dev.srow;exact own_ne hr hb (by decide) _ hk rfl
 ·obtain ⟨cs,hr⟩:=g.dev.nrow;exact own_ne hr hb (by decide) _ hk rfl
 ·exact absurd (hT h.blk) (by decide)
 ·exact own_ne h.mo hb (by decide) _ hk rfl
 ·exact own_ne h.dr hb (by decide) _ hk rfl
theorem blk_turn {w w':World} {b B:Nat} {t:TypeId} {cs:Array Value} {row:Option Nat} (h:Blk w b t cs) (hg:w.grownBy w' row) (hr:∀ r,row=some r->B<=r/\∃ o:Obj,w.heap[r]? = some o/\o.isCells=false):Blk w' b t cs:=
 h.keeps (S:=λ k=>row=some k) ((Keeps.refl (λ k=>row=some k) w).grown hg (λ _ e _=>e)) λ e=>by
  obtain ⟨_,o,h1,h2⟩:=hr _ e
  unfold Blk at h
  rw [h] at h1
  cases h1
  cases h2
theorem own_turn {w w':World} {B base z n:Nat} {e:TypeId} {v:Value} {xs:List Value} {row:Option Nat} (h:w.ownsRow base e z v n xs) (hg:w.grownBy w' row) (hr:∀ r,row=some r->B<=r/\∃ o:Obj,w.heap[r]? = some o/\o.isCells=false):w'.ownsRow base e z v n xs:=
 own_keeps h ((Keeps.refl (λ k=>row=some k) w).grown hg (λ _ e _=>e)) λ k hk e=>by
  obtain ⟨_,o,h1,h2⟩:=hr _ e
  obtain ⟨o',h3,h4⟩:=own_cells h k hk
  rw [h1] at h3
  cases h3
  rw [h2] at h4
  cases h4
section
variable {p most cnt:Nat} {x:Wc} {M:Store} {made dropped:List Int}
theorem drop_turn {W:World} (h:WkOk W p x most M cnt made dropped) (id:Int) {v4:Value} {w4:World} (own4:w4.ownsRow 0 3 1 v4 (dropped.length+1) (intsV dropped++[.int .i64 id])) (hg4:(W.alloc (.cells #[.int .i64 id] 3)).drew.grownBy w4 x.dv.ownBlock)
  (hw4:∀ k,v4.ownBlock=some k->x.dv.ownBlock=some k\/(W.alloc (.cells #[.int .i64 id] 3)).drew.heap.size<=k) :
  WkOk (w4.setCell ⟨x.b,2,none⟩ v4) p { x with dv:=v4 } most M cnt made (dropped++[id])/\WkK p x { x with dv:=v4 } W (w4.setCell ⟨x.b,2,none⟩ v4):=by
 have h1:=(h.alloc (.cells #[.int .i64 id] 3)).drew
 obtain ⟨h3,kk3⟩:=h1.grownD (l:=[id]) hg4 own4 hw4
 exact ⟨h3,(WkK.of_below (((Below.refl _ W).alloc (Nat.le_refl _) _).drew)).trans kk3⟩
theorem drop_cells {W:World} (h:WkOk W p x most M cnt made dropped) (id:Int) {w4:World} (hg4:(W.alloc (.cells #[.int .i64 id] 3)).drew.grownBy w4 x.dv.ownBlock) :
  w4.cell? ⟨x.b,2,none⟩=some x.dv/\w4.frozen? ⟨x.b,2,none⟩=false/\∀ b v,b<W.heap.size->(∀ k,x.dv.ownBlock=some k->k≠b)->W.cell? ⟨b,0,none⟩=some v->w4.cell? ⟨b,0,none⟩=some v:=by
 have h1:=(h.alloc (.cells #[.int .i64 id] 3)).drew
 have bb:=h1.blkD hg4
 refine ⟨bb.cell 2,bb.frozen 2,λ b v hb hn hc=>?_⟩
 have K1:Keeps (λ k=>x.dv.ownBlock=some k) ((W.alloc (.cells #[.int .i64 id] 3)).drew) w4:=(Keeps.refl (λ k=>x.dv.ownBlock=some k) _).grown hg4 (λ k hk _=>hk)
 have e:w4.heap[b]? = W.heap[b]?:=(K1.block b (by simp;omega) (λ e=>hn b e rfl)).trans (Below.heap_alloc _ _ _ hb)
 unfold World.cell? at hc ⊢
 rw [e]
 exact hc
theorem rev_split (st:List Step) (k:Nat) (h:k<st.length):(st.map Step.ghost).reverse=(st.map Step.ghost).reverse.take k++(st[st.length-1-k]'(by omega)).ghost :: (st.map Step.ghost).reverse.drop (k+1)/\(st.map Step.ghost).reverse.take (k+1)=(st.map Step.ghost).reverse.take k++[(st[st.length-1-k]'(by omega)).ghost]:=by
 have hl:k<(st.map Step.ghost).reverse.length:=by simpa using h
 have e:(st.map Step.ghost).reverse[k]=(st[st.length-1-k]'(by omega)).ghost:=by
  rw [List.getElem_reverse,List.getElem_map]
  simp
 refine ⟨?_,?_⟩
 ·rw [<- e,<- List.drop_eq_getElem_cons hl,List.take_append_drop]
 ·rw [List.take_succ_eq_append_getElem hl,e]
end
end Go.Ev
