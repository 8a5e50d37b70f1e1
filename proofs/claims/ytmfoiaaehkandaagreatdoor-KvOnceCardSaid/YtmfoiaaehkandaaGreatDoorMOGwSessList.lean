/-
  Texts of this claim.
-/
import Derived.Test.YtmfoiaaehkandaaGreatDoorMOGwHf
set_option linter.unusedVariables false
set_option linter.unusedSimpArgs false
set_option maxHeartbeats 4000000
set_option maxRecDepth 100000
namespace Go.Ev
open Go.Proofs Go.RowKit
def sessK:Bytes:=[115,101,115,115]
def dataK:Bytes:=[100,97,116,97]
abbrev DB:=Nat × List Pair
abbrev twoDS (td ts:Tr):List Bk:=[⟨dataK,td⟩,⟨sessK,ts⟩]
structure Sn (D:DB) (F:Nat->Prop) (bb q n:Nat) (l:List (Nat × Ses)) (W:World):Prop where
 ex:∃ p rn td ts,Hf F p bb 3000 rn (twoDS td ts) W/\td.ps=D.2/\ts.ps=ssP n l/\rn<=q/\td.n<=q/\ts.n<=q/\td.n<=D.1
 ok:SesOk n l
 good:∀ x∈l,SesGood x.2/\x.2.val.length<=2000
 few:l.length<=40
 room:ndN D.1 D.2<=300000
theorem getB_sess (td ts:Tr):getB sessK (twoDS td ts)=some ⟨sessK,ts⟩:=by simp [getB,sessK,dataK]
theorem getB_data (td ts:Tr):getB dataK (twoDS td ts)=some ⟨dataK,td⟩:=by simp [getB]
theorem insB_sess (td ts t:Tr):insB ⟨sessK,t⟩ (twoDS td ts)=twoDS td t:=by simp [insB,sessK,dataK,lessB,Op.bytesLess]
theorem insB_data (td ts t:Tr):insB ⟨dataK,t⟩ (twoDS td ts)=twoDS t ts:=by simp [insB,sessK,dataK,lessB,Op.bytesLess]
theorem twoDS_n {td ts:Tr} {k:Nat} (h1:td.n<=k) (h2:ts.n<=k):∀ b∈twoDS td ts,b.t.n<=k:=λ b hb=>by
 simp only [List.mem_cons,List.not_mem_nil,or_false] at hb
 rcases hb with rfl | rfl
 ·exact h1
 ·exact h2
section
variable {D:DB} {F:Nat->Prop} {bb q n:Nat} {l:List (Nat × Ses)} {W W':World}
theorem Sn.below (h:Sn D F bb q n l W) (hb:Below W.heap.size W W'):Sn D F bb q n l W':=by
 obtain ⟨p,rn,td,ts,h1,h2⟩:=h.ex
 exact ⟨⟨p,rn,td,ts,h1.below hb,h2⟩,h.ok,h.good,h.few,h.room⟩
theorem Sn.size (h:Sn D F bb q n l W):∀ k,W.heap.size<=k->F k:=by
 obtain ⟨p,rn,td,ts,h1,h2⟩:=h.ex
 exact h1.size
theorem Sn.get (h:Sn D F bb q n l W) (hq:q<=20000) (key:Bytes) (hk1:1<=key.length) (hk2:key.length<=40) :
  Calls Tryz.prog 95 #[ptrV bb,strV sessK,strV key] W λ e w'=>(match getP key (ssP n l) with | some v=>e=.returned (.tuple #[strV v,.int .i64 0]) | none=>e=.returned (.tuple #[strV [],.int .i64 7]))/\Below W.heap.size W w':=by
 obtain ⟨p,rn,td,ts,h1,h2,h3,h4,h5,h6,h7⟩:=h.ex
 refine (h1.get sessK key (by omega) (twoDS_n (by omega) (by omega)) (by decide) (by decide) hk1 hk2).mono ?_
 rintro e w' ⟨he,hb⟩
 refine ⟨?_,hb⟩
 rw [getB_sess] at he
 rcases he with ⟨b',v,g1,g2,rfl⟩ | ⟨g1,rfl⟩
 ·cases g1
  rw [<- h3,g2]
 ·simp only [Option.bind_some,h3] at g1
  rw [g1]
theorem Sn.getD (h:Sn D F bb q n l W) (hq:q<=20000) (key:Bytes) (hk1:1<=key.length) (hk2:key.length<=40) :
  Calls Tryz.prog 95 #[ptrV bb,strV dataK,strV key] W λ e w'=>(match getP key D.2 with | some v=>e=.returned (.tuple #[strV v,.int .i64 0]) | none=>e=.returned (.tuple #[strV [],.int .i64 7]))/\Below W.heap.size W w':=by
 obtain ⟨p,rn,td,ts,h1,h2,h3,h4,h5,h6,h7⟩:=h.ex
 refine (h1.get dataK key (by omega) (twoDS_n (by omega) (by omega)) (by decide) (by decide) hk1 hk2).mono ?_
 rintro e w' ⟨he,hb⟩
 refine ⟨?_,hb⟩
 rw [getB_data] at he
 rcases he with ⟨b',v,g1,g2,rfl⟩ | ⟨g1,rfl⟩
 ·cases g1
  rw [<- h2,g2]
 ·simp only [Option.bind_some,h2] at g1
  rw [g1]
theorem Sn.treeOf (h:Sn D F bb q n l W) (hq:q<=20000) (nm:Bytes) (hnm:nm=sessK\/nm=dataK):Calls Tryz.prog 35 #[ptrV bb,strV nm] W λ e w'=>(∃ r:Int,e=.returned (.tuple #[.int .i64 r,.int .i64 0]))/\Below W.heap.size W w':=by
 obtain ⟨p,rn,td,ts,h1,h2,h3,h4,h5,h6,h7⟩:=h.ex
 obtain ⟨S,root,g1,g2⟩:=h1.ex
 refine (treeB_ok nm g1 (by omega) (by rcases hnm with rfl | rfl<;>decide) (by rcases hnm with rfl | rfl<;>decide)).mono ?_
 rintro e w' ⟨he,hb⟩
 refine ⟨?_,hb⟩
 rcases he with ⟨b',_,rfl⟩ | ⟨e1,_⟩
 ·exact ⟨_,rfl⟩
 ·rcases hnm with rfl | rfl
  ·rw [getB_sess] at e1
   cases e1
  ·rw [getB_data] at e1
   cases e1
theorem Sn.tree (h:Sn D F bb q n l W) (hq:q<=20000):Calls Tryz.prog 35 #[ptrV bb,strV sessK] W λ e w'=>(∃ r:Int,e=.returned (.tuple #[.int .i64 r,.int .i64 0]))/\Below W.heap.size W w':=h.treeOf hq sessK (.inl rfl)
theorem Sn.last (h:Sn D F bb q n l W) (hq:q<=20000):Calls Tryz.prog 108 #[ptrV bb] W λ e w'=>e=.returned (.tuple #[.int .i64 (n:Int),.int .i64 0])/\Below W.heap.size W w':=by
 have HG:=Hdz (h.get hq nextK (by decide) (by decide))
 rw [ss_next] at HG
 have hn8:n<=99999999:=h.ok.2.2
 have HH:=Hdz h
 clear h
 by_cases h0:n=0
 ·rw [if_pos h0] at HG
  subst h0
  go_enter Tryz.func108,Tryz.ntmps108
  go_wp2_with (fail)
  go_must (refine HG.out.mono ?_)
  rintro e w1 ⟨rfl,hb1⟩
  have HT:=Hdz ((HH.out.below hb1).tree hq)
  have HB1:=Hdz hb1
  clear hb1
  go_wp2_with (fail)
  go_must (refine HT.out.mono ?_)
  rintro e w2 ⟨⟨r,rfl⟩,hb2⟩
  have HB2:=Hdz (HB1.out.trans (hb2.mono HB1.out.size))
  clear hb2
  go_wp2_with (fail)
  refine bodyPost_ret (v:=.tuple #[.int .i64 0,.int .i64 0]) (by simp [results,Tryz.results108,go_sem]) rfl ?_
  exact ⟨rfl,HB2.out⟩
 ·rw [if_neg h0] at HG
  obtain ⟨s,hs⟩:=nmz (varsB [(n:Int)])
  have hr:Rd.var ⟨s,0⟩=((n:Int),⟨[],0⟩):=by
   rw [<- hs]
   exact Rd.var_var (n:Int) ⟨by omega,by omega⟩ []
  have hl:s.length<=100:=by
   have:=varsB_len [(n:Int)] (λ y hy=>by rw [List.mem_singleton] at hy;subst hy;exact ⟨by omega,by omega⟩)
   rw [hs] at this
   simp only [List.length_cons,List.length_nil] at this
   omega
  rw [hs] at HG
  have HR:=Hdz hr
  have hn0:¬ (n:Int)<0:=by omega
  clear hs hr h0
  go_enter Tryz.func108,Tryz.ntmps108
  go_wp2_with (fail)
  go_must (refine HG.out.mono ?_)
  rintro e w1 ⟨rfl,hb1⟩
  have HB1:=Hdz hb1
  have HN:=Hdz (newReader_any s w1 (by omega))
  clear hb1
  go_wp2_with (fail)
  go_must (refine HN.out.mono ?_)
  rintro e w2 ⟨r,rfl,hrd,hrz,hb2⟩
  have HV:=Hdz (var_any r _ w2 hrd)
  have HB2:=Hdz (HB1.out.trans (hb2.mono HB1.out.size))
  have hz:=HB1.out.size
  clear hb2 hrd
  go_wp2_with (fail)
  go_must (refine HV.out.mono ?_)
  rintro e w3 hto
  obtain ⟨rfl,hrd,hk3⟩:=hto.go
  rw [HR.out] at hrd ⊢
  have HE:=Hdz (end_any r _ w3 hrd)
  have hend:Rd.end ⟨[],0⟩=0:=by rfl
  rw [hend] at HE
  have HB3:=Hdz (HB2.out.trans (hk3.below HB2.out.size λ i hi e=>by omega))
  clear hto hrd hk3 hend
  go_wp2_with (fail)
  go_must (refine HE.out.mono ?_)
  rintro e w4 ⟨rfl,rfl⟩
  go_wp2_with (fail)
  refine bodyPost_ret (v:=.tuple #[.int .i64 (n:Int),.int .i64 0]) (by simp [results,Tryz.results108,go_sem]) rfl ?_
  exact ⟨rfl,HB3.out⟩
end
def ListP (l:List (Nat × Ses)) (w:World) (e:Ending) (w':World):Prop:=
 ∃ v,e=.returned (.tuple #[v,.int .i64 0])/\w'.ownsRow w.heap.size 3 1 v l.length (intsV (l.map λ x=>(x.1:Int)))/\Below w.heap.size w w'
theorem ssP_at {n:Nat} {l:List (Nat × Ses)} {i:Nat} (h:i<l.length):(ssP n l)[i]? = some (dig 8 l[i].1,layS l[i].2):=by
 unfold ssP sesP
 rw [List.getElem?_append_left (by simpa using h),List.getElem?_map,List.getElem?_eq_getElem h]
 rfl
theorem ssP_end {n:Nat} {l:List (Nat × Ses)} {i:Nat} (h:¬ i<l.length) (hi:i<(ssP n l).length):(ssP n l)[i]? = some (nextK,varsB [(n:Int)])/\i=l.length/\(ssP n l).length=l.length+1:=by
 unfold ssP sesP at hi ⊢
 by_cases h0:n=0
 ·rw [if_pos h0,List.append_nil,List.length_map] at hi
  exact absurd hi h
 ·rw [if_neg h0,List.length_append,List.length_map,List.length_cons,List.length_nil] at hi
  have e:i=l.length:=by omega
  subst e
  rw [if_neg h0]
  simp
section
variable {D:DB} {F:Nat->Prop} {bb q n:Nat} {l:List (Nat × Ses)} {W W':World}
theorem Sn.list (h:Sn D F bb q n l W) (hq:q<=20000):Calls Tryz.prog 107 #[ptrV bb] W (ListP l W):=by
 obtain ⟨i0,hi0,hz0,hz1,hz2⟩:=info_parts infoInt
 have hlen0:(ssP n l).length<=41:=Nat.le_trans (ssP_len n l) (by have:=h.few;omega)
 have hG:Calls Tryz.prog 26 #[ptrV bb,strV sessK,strV [],strV [],.int .i64 0] W (RangePost W.heap.size (ssP n l) W):=by
  obtain ⟨p,rn,td,ts,h1,h2,h3,h4,h5,h6,h7⟩:=h.ex
  obtain ⟨S,root,g1,g2⟩:=h1.ex
  have:=rangeB_ok sessK [] [] 0 ⟨sessK,ts⟩ g1 (getB_sess td ts) (by omega) (by show ts.n<=_;omega) (by show ts.ps.length<=_;rw [h3];omega) (by decide) (by decide)
  rw [rangeP_all] at this
  rw [<- h3]
  exact this
 obtain ⟨ids,hids⟩:=nmz ((l.map λ x=>(x.1:Int)))
 have hidl:ids.length=l.length:=by rw [<- hids,List.length_map]
 have HIds:=Hdz (Anz hids hidl)
 clear hids hidl
 have HG:=Hdz hG
 have HOk:=Hdz h.ok
 have hfew:=h.few
 clear h hG
 go_enter Tryz.func107,Tryz.ntmps107
 go_wp2_with (fail)
 go_must (refine HG.out.mono ?_)
 rintro e w2 ⟨v,rfl,hcl,hb2⟩
 obtain ⟨A,rfl,hA0,hsl⟩:=hcl.sl
 have HSl:=Hdz hsl
 have HB2:=Hdz hb2
 obtain ⟨m,hm⟩:=nmz ((ssP n l).length)
 rw [hm] at HSl hlen0 ⊢
 have HM:=Hdz hm
 clear hcl hsl hb2 hm hA0
 go_wp2_with (fail)
 go_loopg [6,21] m (λ gk s6 s21 wr=>∃ i:Nat,s21=.int .i64 (i:Int)/\i+gk=m/\Hid (wr.ownsRow w2.heap.size 3 1 s6 (min i l.length) (intsV (ids.take i)))/\Hid (Below w2.heap.size w2 wr))
 case atStart=>exact ⟨0,rfl,by omega,by show World.ownsRow _ _ _ _ _ _ _;simpa [intsV] using World.ownsRow_nil _ _ _ _,Below.refl _ _⟩
 case round =>
  obtain ⟨i,rfl,hi,hr,hbw⟩:=hrel
  have hrow:=hr.out
  obtain ⟨Ao,co,rfl,_⟩:=Sl.of_own hrow
  by_cases h1:i<m
  ·have h1':(i:Int)<(m:Int):=by omega
   have hi0':(0:Int)<=(i:Int):=by omega
   have hw1:IntKind.i64.wrap ((i:Int)+1)=(i:Int)+1:=IntWalk.i64_in _ (by omega)
   obtain ⟨_,_,e0,_,_,hcl⟩:=HSl.out.below hbw.out
   cases e0
   obtain ⟨blk,off,rfl,hbl,hcell⟩:=hcl (by omega)
   have hit:i<(ssP n l).length:=by have:=HM.out;omega
   obtain ⟨p1,p2⟩:=pairsCs_at (ssP n l) i hit
   obtain ⟨u,hu⟩:=nmz ((ssP n l)[i])
   rw [hu] at p1 p2
   have hu2:(ssP n l)[i]? = some u:=by rw [List.getElem?_eq_getElem hit,hu]
   have x1:wr.cell? ⟨blk,off+i*2,none⟩=some (strV u.1):=hcell _ _ p1
   have x2:wr.cell? ⟨blk,off+i*2+1,none⟩=some (strV u.2):=hcell _ _ p2
   obtain ⟨uk,uv⟩:=u
   simp only at x1 x2
   clear hcell hcl p1 p2 hu hit
   by_cases hil:i<l.length
   ·have hmin:min i l.length=i:=by omega
    rw [hmin] at hrow
    rw [ssP_at hil] at hu2
    simp only [Option.some.injEq,Prod.mk.injEq] at hu2
    obtain ⟨rfl,_⟩:=hu2
    have hid:=HOk.out.1 l[i] (List.getElem_mem hil)
    have hn8:=HOk.out.2.2
    obtain ⟨id,hide⟩:=nmz (l[i].1)
    rw [hide] at x1 hid
    have hii:i<ids.length:=by have:=HIds.out.2;omega
    have hst:intsV (ids.take (i+1))=intsV (ids.take i)++[.int .i64 (id:Int)]:=by
     have e1:ids[i]=(id:Int):=by
      have h2:ids[i]? = some (id:Int):=by rw [<- HIds.out.1,List.getElem?_map,List.getElem?_eq_getElem hil];simp [hide]
      rw [List.getElem?_eq_getElem hii] at h2
      simpa using h2
     rw [(List.take_append_getElem hii).symm,intsV,intsV,List.map_append,e1]
     rfl
    have HNu:=Hdz (λ W=>number_ok (dig 8 id) W (dig_len 8 id) (λ c hc=>dig_mem hc))
    have hval:valD (dig 8 id)=id:=valD_dig (by omega)
    rw [hval] at HNu
    have hpos:decide (0<id)=true:=by simp;omega
    rw [hpos] at HNu
    obtain ⟨dk,hdk⟩:=nmz (dig 8 id)
    have hne:dk≠nextK:=by rw [<- hdk];exact lessB_ne (dig_next id)
    have hne1:(dk==([110,101,120,116]:Bytes))=false:=beq_eq_false_iff_ne.2 hne
    rw [hdk] at x1 HNu
    have HST:=Hdz hst
    have HRow:=Hdz hrow
    clear hst hrow hr hval hpos hdk hne hide hii
    have HB2r:=Hdz hbw.out
    go_wp2_with (fail)
    go_must (refine (HNu.out _).mono ?_)
    rintro e w3 ⟨rfl,hb3⟩
    have HB3:Hid (Below wr.heap.size wr w3):=((Below.refl _ wr).alloc (Nat.le_refl _) _).trans (hb3.mono (by simp))
    clear hb3
    go_wp2_with (at_builtin;go_must (refine wpList_append_at rfl _ _ 35 rfl w2.heap.size 3 i0 _ 1 8 Tryz.underlying35 hi0 hz0 hz1 hz2 rfl (by decide) _ i _ rfl (own_below (own_below HRow.out HB3.out) ((Below.refl _ w3).alloc (Nat.le_refl _) (.cells #[.int .i64 (id:Int)] 3))) ⟨w3.heap.size,0,none⟩ 1 1 [.int .i64 (id:Int)] rfl rfl (row_new1 _ _ _ _ (by simp)) (by simp [Value.oneCell']) (by unfold maxLen;omega) (by omega) (by have:=HB2r.out.size;have:=HB3.out.size;simp;omega) ?_))
    intro v4 w4 own4 hg4 hw4
    have hbx:Below w2.heap.size w2 (w3.alloc (.cells #[.int .i64 (id:Int)] 3)):=(HB2r.out.trans (HB3.out.mono HB2r.out.size)).alloc (Nat.le_trans HB2r.out.size HB3.out.size) _
    have hb4:Below w2.heap.size w2 w4:=hbx.grown hg4 hbx.size (λ j hj=>(HRow.out.lt j hj).1)
    rw [<- HST.out] at own4
    have hmin2:min (i+1) l.length=i+1:=by omega
    have HM2:=Hdz hmin2
    obtain ⟨A4,c4,rfl,_⟩:=Sl.of_own own4
    have HO4:=Hdz own4
    have HB4:=Hdz hb4
    clear own4 hg4 hw4 hb4 hbx hmin2
    go_wp2_with (fail)
    go_roundg (gk-1)
    case measure=>omega
    case rel=>exact ⟨i+1,by simp,by omega,by rw [HM2.out];exact HO4.out,HB4.out⟩
   ·have hu3:=hu2
    have hit:i<(ssP n l).length:=by have:=HM.out;omega
    obtain ⟨q1,q2,q3⟩:=ssP_end hil hit
    rw [q1] at hu2
    simp only [Option.some.injEq,Prod.mk.injEq] at hu2
    obtain ⟨rfl,rfl⟩:=hu2
    have hmin:min (i+1) l.length=min i l.length:=by omega
    have htk:ids.take (i+1)=ids.take i:=by rw [List.take_of_length_le (by have:=HIds.out.2;omega),List.take_of_length_le (by have:=HIds.out.2;omega)]
    have HE:=Hdz (Anz hmin htk)
    have hb3:Below w2.heap.size w2 (wr.alloc (.cells #[strV nextK,strV (varsB [(n:Int)])] 139)):=hbw.out.alloc hbw.out.size _
    have HB3:=Hdz hb3
    have hrow3:=own_below hrow ((Below.refl wr.heap.size wr).alloc (Nat.le_refl _) (.cells #[strV nextK,strV (varsB [(n:Int)])] 139))
    have HR3:=Hdz hrow3
    obtain ⟨nk,hnk⟩:=nmz (nextK)
    obtain ⟨nv,hnv⟩:=nmz (varsB [(n:Int)])
    rw [hnk] at HB3 HR3 x1
    rw [hnv] at HB3 HR3 x2
    have hnk2:nk=([110,101,120,116]:Bytes):=hnk.symm
    have hnk3:(nk==([110,101,120,116]:Bytes))=true:=by rw [hnk2];rfl
    clear hu3 q1 q2 q3 hit hmin htk hrow hb3 hrow3 hnk hnv hnk2 hr hbw
    go_wp2_with (fail)
    go_roundg (gk-1)
    case measure=>omega
    case rel=>exact ⟨i+1,by simp,by omega,by rw [HE.out.1,HE.out.2];exact HR3.out,HB3.out⟩
  ·have h1':¬ (i:Int)<(m:Int):=by omega
   have hlm:l.length<=i:=by
    have:=HM.out
    have h2:l.length<=(ssP n l).length:=by unfold ssP sesP;rw [List.length_append,List.length_map];omega
    omega
   rw [Nat.min_eq_right hlm,List.take_of_length_le (by have:=HIds.out.2;omega)] at hrow
   have HE:Hid (ListP l W (.returned (.tuple #[.slice Ao (min i l.length) co,.int .i64 0])) wr):=by
    rw [Nat.min_eq_right hlm]
    exact ⟨_,rfl,by rw [HIds.out.1];exact own_base hrow HB2.out.size,HB2.out.trans (hbw.out.mono HB2.out.size)⟩
   clear hrow hr hlm hbw
   go_wp2_with (fail)
   refine bodyPost_ret (v:=.tuple #[.slice Ao (min i l.length) co,.int .i64 0]) (by simp [results,Tryz.results107,go_sem]) rfl ?_
   exact HE.out
end
end Go.Ev
