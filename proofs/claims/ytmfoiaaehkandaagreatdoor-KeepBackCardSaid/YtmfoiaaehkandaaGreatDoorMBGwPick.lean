/-
  Texts of this claim.
-/
import Derived.Test.YtmfoiaaehkandaaGreatDoorMBGvPutDel
import Derived.Test.YtmfoiaaehkandaaGreatDoorMBGwReplace
import Derived.Test.YtmfoiaaehkandaaGreatDoorMBGwSeal
import Derived.Lib.SortBridge
set_option linter.unusedVariables false
set_option linter.unusedSimpArgs false
set_option maxHeartbeats 4000000
set_option maxRecDepth 100000
namespace Go.Ev
structure Ses where
 who:Int
 seq:Int
 err:Int
 num:Int
 val:List UInt8
theorem dig8_ne {a b:Nat} (ha:a<=99999999) (hb:b<=99999999) (h:a≠b):dig 8 a≠dig 8 b:=λ e=>h (dig_inj (k:=8) (by omega) (by omega) e)
open Go.Lib
theorem Hist.same {M M':Store} {k:Nat} {root:Int} {S:Nat->Nat} {n:Nat} {d:Nat} {lo:Bytes} {hi:Option Bytes} {ps:List Pair} {ids:List Int} (h:Hist M k root S n) (ht:TreeAt M d k root lo hi ps ids) (hs:SameOn M M' ids):Hist M' k root S n:=by
 have e:∀ (f:List Item->Nat) (g:List Child->Nat) l,meas f g M' k root l=meas f g M k root l:=λ f g l=>by rw [meas_same ht hs]
 exact ⟨by rw [e];exact h.pot0,λ l=>by rw [e];exact h.potl l,λ l=>by rw [e];exact h.cnt l,h.top⟩
structure TreeH (M:Store) (root:Int) (ps:List Pair) (ids:List Int) (n:Nat):Prop where
 ex:∃ k S,TopAt M k root ps ids/\Hist M k root S n
 once:ids.Nodup
 short:Short ps
theorem TreeH.same {M M':Store} {root:Int} {ps:List Pair} {ids:List Int} {n:Nat} (h:TreeH M root ps ids n) (hs:SameOn M M' ids):TreeH M' root ps ids n:=by
 obtain ⟨⟨k,S,h1,h2⟩,h3,h4⟩:=h
 refine ⟨⟨k,S,⟨h1.tree.same hs,h1.wide.imp id λ e=>?_⟩,h2.same h1.tree hs⟩,h3,h4⟩
 cases k with
 | zero=>obtain ⟨items,i2,g1,g2⟩:=h1.tree;unfold kidsAt at e ⊢;rw [hs root (by rw [g2.2.2.2.1];simp)];exact e
 | succ k=>obtain ⟨c,L,i2,g1,g2⟩:=h1.tree;unfold kidsAt at e ⊢;rw [hs root (by rw [g2.2.2.2.2.2];simp)];exact e
theorem TreeH.new {M:Store} {root:Int} (h:M root=some ⟨2,0,[]⟩):TreeH M root [] [root] 0:=
 ⟨⟨0,_,⟨⟨[],[],h,rfl,by simp [layI],⟨rfl,rfl⟩,rfl,λ q hq=>by cases hq⟩,.inl rfl⟩,Hist.new h⟩,by simp,λ q hq=>by cases hq⟩
theorem TreeH.there {M:Store} {root:Int} {ps:List Pair} {ids:List Int} {n:Nat} (h:TreeH M root ps ids n):∀ i∈ids,M i≠none:=by
 obtain ⟨⟨k,S,h1,h2⟩,h3,h4⟩:=h
 exact h1.tree.there
theorem TopAt.low {M:Store} {k:Nat} {root:Int} {ps:List Pair} {ids:List Int} (h:TopAt M k root ps ids) (hp:ps.length<=1):k=0:=by
 cases k with
 | zero=>rfl
 | succ k =>
  exfalso
  obtain ⟨c,L,i2,h1,h2,h3,h4,h5,h6,h7⟩:=h.tree
  have hw:=h.wide.resolve_left (by omega)
  rw [kidsAt_of h1 h2 h3] at hw
  cases L with
  | nil=>simp [headKey] at hw
  | cons c' L =>
   obtain ⟨p1,p2,j1,j2,e1,e2,⟨_,g2⟩,⟨p3,p4,j3,j4,e3,e4,⟨_,g4⟩,_⟩⟩:=h6
   have a1:=List.length_pos_iff.2 g2
   have a2:=List.length_pos_iff.2 g4
   rw [e1,e3,List.length_append,List.length_append] at hp
   omega
structure TreeL (M:Store) (root:Int) (all:List Pair):Prop where
 ex:∃ k ids,TopAt M k root all ids/\k<30
 short:Short all
theorem Hist.high17 {M:Store} {k:Nat} {root:Int} {S:Nat->Nat} {n:Nat} (h:Hist M k root S n) (hn:n<=20000):k<=17:=by
 have h0:=h.pot0
 have p:∀ l,94*S (l+1)<=51*S l:=λ l=>by have:=h.potl l;omega
 have p0:=p 0
 have p1:=p 1
 have p2:=p 2
 have p3:=p 3
 have p4:=p 4
 have p5:=p 5
 have p6:=p 6
 have p7:=p 7
 have p8:=p 8
 have p9:=p 9
 have p10:=p 10
 have p11:=p 11
 have p12:=p 12
 have p13:=p 13
 have p14:=p 14
 have p15:=p 15
 have p16:=p 16
 simp only [Nat.zero_add,Nat.reduceAdd] at p0 p1 p2 p3 p4 p5 p6 p7 p8 p9 p10 p11 p12 p13 p14 p15 p16
 apply Decidable.byContradiction
 intro hk
 have:=h.top 17 (by omega)
 omega
theorem TreeH.l {M:Store} {root:Int} {ps:List Pair} {ids:List Int} {n:Nat} (h:TreeH M root ps ids n) (hn:n<=20000):TreeL M root ps:=by
 obtain ⟨⟨k,S,h1,h2⟩,_,h4⟩:=h
 exact ⟨⟨k,ids,h1,by have:=h2.high17 hn;omega⟩,h4⟩
end Go.Ev
namespace Go.Ev
open Go.Proofs Go.RowKit
/-- slices.Delete of one element, out of a row of one's own. -/
theorem sdelI_any (base g n cap i:Nat) (l:List Item) (w:World) (h:w.ownsRow base 223 4 (.slice (some ⟨g,0,none⟩) n cap) n (itemsCs l)) (hi:i<n) (hn:n<=10000) (hb:base<=w.heap.size) :
  Calls Tryz.prog 230 #[.slice (some ⟨g,0,none⟩) n cap,.int .i64 (i:Int),.int .i64 ((i:Int)+1)] w λ e w' =>
   ∃ v,e=.returned v/\w'.ownsRow base 223 4 v (n-1) (itemsCs (l.take i++l.drop (i+1)))/\Keeps (λ k=>k=g) w w':=by
 obtain ⟨i0,hinf,hz0,hz1,hz2⟩:=info_parts (show (Tryz.prog.info? 223).map (λ i=>(i.zero,i.size,i.bytes))=some (some (.agg #[.string ⟨#[]⟩,.string ⟨#[]⟩,.int .i64 0,.int .i64 0]),4,48) by kernel_rfl)
 have hll:l.length=n:=by have:=h.1;rw [itemsCs_len] at this;omega
 have hcap:n<=cap:=by
  rcases h.2 with ⟨e0,_⟩ | ⟨g',cap',cur,e0,_,_,hnc,_⟩
  ·cases e0
  ·simp only [Value.slice.injEq,Option.some.injEq,Addr.mk.injEq,and_true,true_and] at e0
   obtain ⟨rfl,rfl⟩:=e0
   exact hnc
 obtain ⟨j,hj⟩:=nmz (i+1)
 obtain ⟨m,hm⟩:=nmz (n-1)
 -- what is moved up
 obtain ⟨ad,had,hadj⟩:∃ ad:Addr,(if cap=j then some (⟨g,0,none⟩:Addr) else some ⟨g,j*4,none⟩)=some ad/\(cap=j\/ad=⟨g,j*4,none⟩):=by
  by_cases hc:cap=j
  ·exact ⟨_,by rw [if_pos hc],.inl hc⟩
  ·exact ⟨_,by rw [if_neg hc],.inr rfl⟩
 have hnews:∀ k u,(itemsCs (l.drop j))[k]? = some u->w.drew.cell? (ad.add k)=some u:=λ k u hu=>by
  rcases hadj with hc | rfl
  ·rw [List.drop_eq_nil_of_le (by omega)] at hu
   simp [itemsCs] at hu
  rw [<- itemsCs_drop,List.getElem?_drop] at hu
  have h1:=h.cells (g:=g) rfl _ _ hu
  rw [addr_add] at h1 ⊢
  rw [Nat.zero_add] at h1
  exact h1
 have hfr:=own_front h (Nat.le_of_lt hi)
 rw [itemsCs_take] at hfr
 obtain ⟨w1,hr,hown1,hg1⟩:=run_append_stays (P:=Tryz.prog) (ty:=217) w.drew (i:=i0) Tryz.underlying217 hinf hz0 hz1 hz2 rfl (by decide) (show w.drew.ownsRow base 223 4 (.slice (some ⟨g,0,none⟩) i cap) i (itemsCs (l.take i)) from hfr) (a:=ad) (m:=n-j) (c:=cap-j) (news:=itemsCs (l.drop j)) (by rw [itemsCs_len,List.length_drop];omega) hnews (itemsCs_one _) (by omega) (by unfold maxLen;omega) (by omega) hb
 have hmm:i+(n-j)=m:=by omega
 rw [hmm,<- itemsCs_append] at hown1
 rw [hmm] at hr
 have hK1:Keeps (λ k=>k=g) w w1:=((Keeps.refl (λ k=>k=g) w).drew).grown hg1 λ k e _=>by cases e;rfl
 -- what is cleared
 obtain ⟨cur',hb1,hcs1⟩:∃ cur',w1.heap[g]? = some (.cells cur' 223 (0,0))/\n*4<=cur'.size:=by
  rcases hown1.2 with ⟨e0,_⟩ | ⟨g',cap',cur,e0,_,hg',hnc,_,hcs,_⟩
  ·cases e0
  ·simp only [Value.slice.injEq,Option.some.injEq,Addr.mk.injEq,and_true,true_and] at e0
   obtain ⟨rfl,rfl⟩:=e0
   exact ⟨cur,hg',by omega⟩
 have hB1:Blk w1 g 223 cur':=hb1
 have hcl:=λ ty=>run_clear_one (P:=Tryz.prog) w1 217 223 ty (.agg #[.string ⟨#[]⟩,.string ⟨#[]⟩,.int .i64 0,.int .i64 0]) Tryz.underlying217 (λ W=>by kernel_rfl) (by simp [Value.cells,Value.oneCell']) g (m*4) (cap-m) (λ k hk=>by
  rw [hB1.cell]
  have h4:k<4:=hk
  rw [Array.getElem?_eq_getElem (by omega)]
  rfl) (λ k _=>hB1.frozen _)
 have hown2:=own_beyond (vs:=(Value.agg #[.string ⟨#[]⟩,.string ⟨#[]⟩,.int .i64 0,.int .i64 0]).cells.toList) hown1 (Nat.le_refl _)
 have hK2:=hK1.trans (setCells_frm ((Value.agg #[.string ⟨#[]⟩,.string ⟨#[]⟩,.int .i64 0,.int .i64 0]).cells.toList) (m*4) w1) λ _ _ e=>e
 obtain ⟨w2,hw2⟩:=nmz (w1.setCells g (m*4) (Value.agg #[.string ⟨#[]⟩,.string ⟨#[]⟩,.int .i64 0,.int .i64 0]).cells.toList)
 rw [hw2] at hown2 hK2 hcl
 have hne:((i:Int)==(i:Int)+1)=false:=by simp;omega
 have hi0:(0:Int)<=(i:Int):=by omega
 have hi1:(i:Int)<=(i:Int)+1:=by omega
 have hi2:(i:Int)+1<=(n:Int):=by omega
 have hnc:(n:Int)<=(cap:Int):=by omega
 have hic:(i:Int)<=(cap:Int):=by omega
 have hm0:(0:Int)<=(m:Int):=by omega
 have hmn:(m:Int)<=(n:Int):=by omega
 have hi01:(0:Int)<=(i:Int)+1:=by omega
 have hcm:¬ cap=m:=by omega
 have hnm:n-m=1:=by omega
 have HE:=Hdz (Anz hown2 hK2)
 have HJ:=Hdz hj
 clear hadj hfr hnews hown1 hg1 hmm hK1 hb1 hcs1 hB1 hown2 hK2 hw2 h
 go_enter Tryz.func230,Tryz.ntmps230
 go_wp2_with (fail)
 refine wRz ?_
 try simp only [lAz]
 refine tA 0 ?_;try simp only [lAz]
 refine tA 1 ?_;try simp only [lAz]
 refine tA 2 ?_;try simp only [lAz]
 refine tA 3 ?_;try simp only [lAz]
 refine tA 4 ?_;try simp only [lAz]
 refine tA 5 ?_;try simp only [lAz]
 refine rZz 6 λ K hK=>?_;refine if_on rfl ?_
 go_must (refine wp_append_eq _ _ 217 rfl rfl rfl hr ?_)
 go_simp
 apply hK
 clear hK K
 try simp only [lAz]
 refine tA 7 ?_;try simp only [lAz]
 refine wDz ?_
 go_wp2_with (fail)
 go_ret
 refine ⟨_,rfl,?_,HE.out.2⟩
 rw [HJ.out,hm]
 exact HE.out.1
theorem delI_any (A:Option Addr) (n c:Nat) (l:List Item) (key:Bytes) (w:World) (hv:Sl w 4 (.slice A n c) n (itemsCs l)) (hn:n<=10000) (hr:riseI l=true) :
  Calls Tryz.prog 191 #[.slice A n c,strV key] w (OwnPost (delI l key) w):=by
 have hl:=hv.len4
 subst hl
 have hale:=ahead_le key l
 have HF:=Hdz (findI_any A l.length c l key w hv (by omega) hr)
 have HC:=Hdz (λ W (hb:Below w.heap.size w W)=>cloneI_all A l.length c l W (hv.below hb) (by omega))
 have HDel:Hid (isAt key l=true->delI l key=l.take (ahead key l)++l.drop (ahead key l+1)):=λ h=>by unfold delI;rw [if_pos h]
 have HNot:Hid (isAt key l=false->delI l key=l):=λ h=>by unfold delI;rw [if_neg (by rw [h];decide)]
 have HLt:Hid (isAt key l=true->ahead key l<l.length):=λ h=>by
  obtain ⟨x,hx,_⟩:=isAt_iff.1 h
  exact (List.getElem?_eq_some_iff.1 hx).1
 clear hv hr
 generalize ahead key l=i at *
 go_enter Tryz.func191,Tryz.ntmps191
 go_wp2_with (fail)
 go_must (refine HF.out.mono ?_)
 rintro e w1 ⟨rfl,hb1⟩
 have HC1:=Hdz (HC.out w1 hb1)
 have HB1:=Hdz hb1
 clear hb1
 go_wp2_with (fail)
 go_must (refine HC1.out.mono ?_)
 rintro e w2 ⟨v2,rfl,hown,hb2⟩
 have HB2:=Hdz (HB1.out.trans (hb2.mono HB1.out.size))
 have hown:=own_base hown HB1.out.size
 clear hb2
 cases hat:isAt key l with
 | false =>
  have hd:=HNot.out hat
  have HE:Hid (OwnPost (delI l key) w (.returned v2) w2):=by
   rw [hd]
   exact ⟨v2,rfl,hown,HB2.out⟩
  obtain ⟨A2,c2,rfl,_⟩:=Sl.of_own hown
  clear hown hd
  go_wp2_with (fail)
  go_ret
  exact HE.out
 | true =>
  have hlt:=HLt.out hat
  have hd:=HDel.out hat
  rcases hown.2 with ⟨_,h0⟩ | ⟨g,cap,cur,rfl,hbg,_⟩
  ·omega
  have hDl:=sdelI_any w.heap.size g l.length cap i l w2 hown hlt (by omega) HB2.out.size
  have hwi:IntKind.i64.wrap ((i:Int)+1)=(i:Int)+1:=IntWalk.i64_in _ (by omega)
  have HDl:=Hdz hDl
  have HD:=Hdz hd
  clear hDl hown hd
  go_wp2_with (fail)
  go_must (refine HDl.out.mono ?_)
  rintro e w3 ⟨v3,rfl,hown3,hk3⟩
  have hl3:l.length-1=(delI l key).length:=by
   rw [HD.out,List.length_append,List.length_take,List.length_drop]
   omega
  have HE:Hid (OwnPost (delI l key) w (.returned v3) w3):=by
   refine ⟨v3,rfl,?_,HB2.out.trans (hk3.below HB2.out.size λ k hk e=>by omega)⟩
   rw [<- hl3,HD.out]
   exact hown3
  obtain ⟨A3,c3,rfl,_⟩:=Sl.of_own hown3
  clear hown3 hk3 hl3
  go_wp2_with (fail)
  go_ret
  exact HE.out
end Go.Ev
namespace Go.Ev
open Go.Lib
inductive Zip (M:Store) (d:Nat) (all:List Pair):Nat->Int->Bytes->Option Bytes->List Pair->Nat->List (List Child × Nat)->Prop
 | root {h:Nat} {id:Int} {ids:List Int}:TreeAt M d h id [] none all ids->(h=0\/2<=(kidsAt M id).length)->h<30->Zip M d all h id [] none all 0 []
 | down {k:Nat} {id:Int} {lo:Bytes} {hi:Option Bytes} {ps p1 p2 p3:List Pair} {off:Nat} {path:List (List Child × Nat)} {c y:Child} {L A B:List Child} {i1 i2 i3:List Int}:Zip M d all (k+1) id lo hi ps off path →
   c.key=lo->c :: L=A++y :: B->Seg (Sub M d k) A (some y.key) p1 i1->Sub M d k y.page y.key (nextB B hi) p2 i2->Seg (Sub M d k) B hi p3 i3->ps=p1++(p2++p3) →
   Zip M d all k y.page y.key (nextB B hi) p2 (off+p1.length) (path++[(headKey [] (c :: L),A.length)])
theorem headKey_pg (k:Bytes):∀ (L:List Child) (i:Nat) (x:Child),(headKey k L)[i]? = some x->∃ y,L[i]? = some y/\y.page=x.page
 | [],i,x,h=>by simp [headKey] at h
 | c :: L,0,x,h=>by
  simp only [headKey,List.getElem?_cons_zero,Option.some.injEq] at h
  subst h
  exact ⟨c,rfl,rfl⟩
 | c :: L,i+1,x,h=>⟨x,by simpa [headKey] using h,rfl⟩
section
variable {M:Store} {d k off:Nat} {all ps:List Pair} {id:Int} {lo:Bytes} {hi:Option Bytes} {path:List (List Child × Nat)}
theorem Zip.tree (h:Zip M d all k id lo hi ps off path):(∃ ids,TreeAt M d k id lo hi ps ids)/\(path≠[]->ps≠[]):=by
 cases h with
 | root h=>exact ⟨⟨_,h⟩,λ h=>absurd rfl h⟩
 | down _ _ _ _ h _ _=>exact ⟨⟨_,h.1⟩,λ _=>h.2⟩
theorem Zip.pos (h:Zip M d all k id lo hi ps off path):∃ a b,all=a++(ps++b)/\a.length=off/\(∀ q∈a,lessB q.1 lo=true)/\∀ q∈b,∃ u,hi=some u/\lessB q.1 u=false:=by
 induction h with
 | root h=>exact ⟨[],[],by simp,rfl,λ q hq=>by simp at hq,λ q hq=>by simp at hq⟩
 | @down k id lo hi ps p1 p2 p3 off path c y L A B i1 i2 i3 hz hr hF s1 s2 s3 hps ih =>
  obtain ⟨a,b,h1,h2,h3,h4⟩:=ih
  subst hps
  -- the lower bound of the parent is not above the child's
  have hlo:∀ q∈a,lessB q.1 y.key=true:=by
   intro q hq
   have hq1:=h3 q hq
   cases hAA:A with
   | nil =>
    rw [hAA] at hF
    simp only [List.nil_append,List.cons.injEq] at hF
    rw [<- hF.1,hr]
    exact hq1
   | cons x A' =>
    rw [hAA] at hF s1
    simp only [List.cons_append,List.cons.injEq] at hF
    obtain ⟨z,hz'⟩:=List.exists_mem_of_ne_nil _ (s1.ne (by simp))
    have hb:=Seg.inR s1 z hz'
    rw [<- hF.1,hr] at hb
    exact lessB_trans (lessB_of_lt_le hq1 hb.1) (hb.2 y.key rfl)
  exact ⟨a++p1,p3++b,by rw [h1];simp,by simp [h2],λ q hq=>by
   rcases List.mem_append.1 hq with hq | hq
   ·exact hlo q hq
   ·cases hAA:A with
    | nil=>rw [hAA] at s1;rw [s1.1] at hq;simp at hq
    | cons x A'=>rw [hAA] at s1;exact (Seg.inR s1 q hq).2 y.key rfl,λ q hq=>by
   rcases List.mem_append.1 hq with hq | hq
   ·cases hBB:B with
    | nil=>rw [hBB] at s3;rw [s3.1] at hq;simp at hq
    | cons b' B'=>rw [hBB] at s3;exact ⟨b'.key,rfl,(Seg.inR s3 q hq).1⟩
   ·obtain ⟨u,hu,hl⟩:=h4 q hq
    cases hBB:B with
    | nil=>exact ⟨u,hu,hl⟩
    | cons b' B' =>
     rw [hBB] at s3
     refine ⟨b'.key,rfl,?_⟩
     obtain ⟨x,hx⟩:=List.exists_mem_of_ne_nil _ (s3.ne (by simp))
     have hb:=Seg.inR s3 x hx
     have h5:=hb.2 u hu
     -- b'.key <= x < u <= q
     exact lessB_le_trans hb.1 (lessB_asymm (lessB_of_lt_le h5 hl))⟩
theorem Zip.child (h:Zip M d all (k+1) id lo hi ps off path):∃ L,M id=some ⟨3,0,layC L⟩/\rightC L=true/\(layC L).length<=240/\d<=L.length/\∀ i x,L[i]? = some x->∃ lo' hi' ps' off',Zip M d all k x.page lo' hi' ps' off' (path++[(L,i)]) ∧
  (i=0->off'=off)/\(i+1=L.length->off'+ps'.length=off+ps.length)/\∀ key,inR lo hi key->i=findC key L->inR lo' hi' key:=by
 obtain ⟨⟨ids,c,L,i2,h1,h2,h3,h4,h5,h6,h7⟩,_⟩:=h.tree
 refine ⟨headKey [] (c :: L),h1,h2,h3,by simpa [headKey] using h4,λ i x hx=>?_⟩
 obtain ⟨y,hy,hpg⟩:=headKey_pg _ _ _ _ hx
 have hil:i<(c :: L).length:=(List.getElem?_eq_some_iff.1 hy).1
 have hF:c :: L=(c :: L).take i++y :: (c :: L).drop (i+1):=by
  have e:(c :: L).drop i=y :: (c :: L).drop (i+1):=by
   rw [List.drop_eq_getElem_cons hil]
   rw [List.getElem?_eq_getElem hil,Option.some.injEq] at hy
   rw [hy]
  rw [<- e,List.take_append_drop]
 have hlen:((c :: L).take i).length=i:=by rw [List.length_take];omega
 have hB0:(c :: L).drop (i+1)=L.drop i:=by simp
 have hy0:i=0->y=c:=by rintro rfl;simpa using hy.symm
 have hyk:i≠0->L[i-1]? = some y:=by
  intro h0
  obtain ⟨j,rfl⟩:∃ j,i=j+1:=⟨i-1,by omega⟩
  simpa using hy
 rw [<- hpg]
 clear hpg hx hy
 generalize hA:(c :: L).take i=A at *
 generalize hB:(c :: L).drop (i+1)=B at *
 have hs:=h6
 rw [hF] at hs
 obtain ⟨p1,pr,j1,jr,rfl,rfl,s1,s2⟩:=Seg.append.1 hs
 obtain ⟨p2,p3,j2,j3,rfl,rfl,s3,s5⟩:=s2
 have hz:=Zip.down h h5 hF s1 s3 s5 rfl
 rw [hlen] at hz
 refine ⟨_,_,_,_,hz,?_,?_,?_⟩
 ·rintro rfl
  have:A=[]:=List.eq_nil_of_length_eq_zero hlen
  subst this
  rw [s1.1]
  simp
 ·intro he
  have hBn:B=[]:=by
   rw [<- hB]
   exact List.drop_of_length_le (by simp [headKey] at he ⊢;omega)
  subst hBn
  rw [s5.1]
  simp only [List.length_append,List.append_nil]
  omega
 ·intro key hin hi0
  have hri:riseC [] L=true:=(rightC_cons.1 h2).2.2
  have hfc:findC key (headKey [] (c :: L))=Go.Ev.below key L:=rfl
  rw [hfc] at hi0
  refine ⟨?_,?_⟩
  ·by_cases h0:i=0
   ·rw [hy0 h0,h5];exact hin.1
   ·obtain ⟨z,z1,z2⟩:=below_lt (k:=key) (l:=L) (i:=i-1) (by omega)
    rw [hyk h0] at z1
    cases z1
    exact z2
  ·intro u hu
   cases hBB:B with
   | nil=>rw [hBB] at hu;exact hin.2 u hu
   | cons b B' =>
    rw [hBB] at hu hB0
    simp only [nextB,Option.some.injEq] at hu
    subst hu
    have hlt:i<L.length:=by
     rcases Nat.lt_or_ge i L.length with h | h
     ·exact h
     ·rw [List.drop_of_length_le h] at hB0;cases hB0
    rw [List.drop_eq_getElem_cons hlt] at hB0
    have hb1:=(List.cons.inj hB0).1
    exact below_ge hri (by omega:Go.Ev.below key L<=i) (by rw [List.getElem?_eq_getElem hlt,hb1])
theorem Zip.beside {L:List Child} {i:Nat} (h:Zip M d all k id lo hi ps off (path++[(L,i)])):i<L.length/\(∃ id' lo' hi' ps' off',Zip M d all (k+1) id' lo' hi' ps' off' path/\(i+1=L.length->off'+ps'.length=off+ps.length)/\(i=0->off'=off)) ∧
  (∀ x,L[i+1]? = some x->∃ lo' hi' ps',Zip M d all k x.page lo' hi' ps' (off+ps.length) (path++[(L,i+1)])) ∧
  (∀ x,L[i-1]? = some x->0<i->∃ lo' hi' ps' off',Zip M d all k x.page lo' hi' ps' off' (path++[(L,i-1)])/\off'+ps'.length=off):=by
 generalize hG:path++[(L,i)]=G at h
 cases h with
 | root h=>simp at hG
 | @down k id lo hi ps0 p1 _ p3 off path' c y L0 A B i1 i2 i3 hz hr hF s1 s2 s3 hps =>
  obtain ⟨e1,e2⟩:=List.append_inj' hG rfl
  simp only [List.cons.injEq,Prod.mk.injEq,and_true] at e2
  obtain ⟨rfl,rfl⟩:=e2
  subst e1
  subst hps
  have hlen:(headKey [] (c :: L0)).length=A.length+(B.length+1):=by
   rw [headKey_len,hF,List.length_append];rfl
  refine ⟨by omega,⟨_,_,_,_,_,hz,λ he=>?_,λ h0=>?_⟩,λ x hx=>?_,λ x hx h0=>?_⟩
  ·have:B=[]:=List.eq_nil_of_length_eq_zero (by omega)
   subst this
   rw [s3.1]
   simp only [List.length_append,List.append_nil]
   omega
  ·have:A=[]:=List.eq_nil_of_length_eq_zero h0
   subst this
   rw [s1.1]
   simp
  ·cases hBB:B with
   | nil=>rw [hBB] at hlen;simp only [List.length_nil] at hlen;have:=(List.getElem?_eq_some_iff.1 hx).1;omega
   | cons b B' =>
    subst hBB
    have hs3:=s3
    obtain ⟨q1,q2,j1,j2,rfl,rfl,t1,t2⟩:=hs3
    have hsA:Seg (Sub M d k) (A++[y]) (some b.key) (p1++ps) (i1++i2):=Seg.append.2 ⟨p1,ps,i1,i2,rfl,rfl,s1,ps,[],i2,[],by simp,by simp,s2,rfl,rfl⟩
    have hz':=Zip.down hz hr (by rw [hF];simp:c :: L0=(A++[y])++b :: B') hsA t1 t2 (by simp)
    have e3:(A++[y]).length=A.length+1:=by simp
    have e4:off+(p1++ps).length=off+p1.length+ps.length:=by simp;omega
    rw [e3,e4] at hz'
    have hg:x=b:=by
     have:(c :: L0)[A.length+1]? = some b:=by rw [hF];simp
     have e5:(headKey [] (c :: L0))[A.length+1]? = some b:=by simpa [headKey] using this
     rw [e5] at hx
     exact (Option.some.inj hx).symm
    rw [hg]
    exact ⟨_,_,_,hz'⟩
  ·obtain ⟨A',a,hA⟩:∃ A' a,A=A'++[a]:=by
    rcases List.eq_nil_or_concat A with h | ⟨l,b,h⟩
    ·rw [h] at h0;simp at h0
    ·exact ⟨l,b,by simpa using h⟩
   subst hA
   obtain ⟨q1,q2,j1,j2,rfl,rfl,t1,t2⟩:=Seg.append.1 s1
   obtain ⟨r1,r2,k1,k2,rfl,rfl,u1,rfl,rfl⟩:=t2
   simp only [nextB] at u1
   have hsB:Seg (Sub M d k) (y :: B) hi (ps++p3) (i2++i3):=⟨ps,p3,i2,i3,rfl,rfl,s2,s3⟩
   have hz':=Zip.down hz hr (by rw [hF];simp:c :: L0=A'++a :: (y :: B)) t1 u1 hsB (by simp)
   have e3:(A'++[a]).length-1=A'.length:=by simp
   have hg:x.page=a.page:=by
    obtain ⟨y',hy',hpg⟩:=headKey_pg _ _ _ _ hx
    have:(c :: L0)[(A'++[a]).length-1]? = some a:=by rw [hF];simp
    rw [this] at hy'
    rw [<- hpg,Option.some.inj hy']
   rw [hg,e3]
   exact ⟨_,_,_,_,hz',by simp;omega⟩
theorem Zip.leaf (h:Zip M d all 0 id lo hi ps off path):∃ items i2,M id=some ⟨2,0,layI items⟩/\riseI items=true/\(layI items).length<=240/\LeafAt M items ps i2/\(path≠[]->items≠[]):=by
 obtain ⟨⟨ids,items,i2,h1,h2,h3,h4,h5,h6⟩,hne⟩:=h.tree
 refine ⟨items,i2,h1,h2,h3,h4,λ hp e=>hne hp ?_⟩
 subst e
 exact h4.1
theorem LeafAt.item {l:List Item} {ids:List Int} (h:LeafAt M l ps ids):l.length=ps.length/\∀ j (hl:j<l.length) (hp:j<ps.length),l[j].key=ps[j].1/\∃ ii,ValAt M l[j] ps[j].2 ii:=by
 induction l generalizing ps ids with
 | nil=>obtain ⟨rfl,rfl⟩:=h;exact ⟨rfl,λ j hl=>by simp at hl⟩
 | cons x l ih =>
  obtain ⟨v,ps',i1,i2,rfl,rfl,h3,h4⟩:=h
  obtain ⟨q1,q2⟩:=ih h4
  refine ⟨by simp [q1],λ j hl hp=>?_⟩
  cases j with
  | zero=>exact ⟨rfl,_,h3⟩
  | succ j=>exact q2 j (by simpa using hl) (by simpa using hp)
theorem Zip.low (h:Zip M d all k id lo hi ps off path):k+path.length<30:=by
 induction h with
 | root _ _ h=>simpa using h
 | down hz _ _ _ _ _ _ ih =>
  rw [List.length_append,List.length_cons,List.length_nil]
  omega
theorem Zip.wide (h:Zip M d all k id lo hi ps off path) (hp:path=[]):k=0\/2<=(kidsAt M id).length:=by
 cases h with
 | root _ h _=>exact h
 | down=>simp at hp
end
structure Tr where
 root:Int
 ps:List Pair
 ids:List Int
 n:Nat
def idsT (T:List Tr):List Int:=T.flatMap (·.ids)
theorem idsT_cons (t:Tr) (T:List Tr):idsT (t :: T)=t.ids++idsT T:=by simp [idsT]
theorem idsT_mem {T:List Tr} {i:Int}:i∈idsT T↔∃ t∈T,i∈t.ids:=by simp [idsT]
theorem idsT_perm {T T':List Tr} (h:T.Perm T'):(idsT T).Perm (idsT T'):=by
 unfold idsT
 exact List.Perm.flatMap_right _ h
structure Fam (M:Store) (T:List Tr) (cnt:Nat):Prop where
 each:∀ t∈T,TreeH M t.root t.ps t.ids t.n
 once:(idsT T).Nodup
 cnt:cnt=(idsT T).length
theorem Fam.perm {M:Store} {T T':List Tr} {cnt:Nat} (h:Fam M T cnt) (hp:T.Perm T'):Fam M T' cnt:=
 ⟨λ t ht=>h.each t (hp.mem_iff.2 ht),(idsT_perm hp).nodup_iff.1 h.once,by rw [h.cnt];exact (idsT_perm hp).length_eq⟩
theorem Fam.there {M:Store} {T:List Tr} {cnt:Nat} (h:Fam M T cnt):∀ i∈idsT T,M i≠none:=λ i hi=>by
 obtain ⟨t,ht,hi⟩:=idsT_mem.1 hi
 exact (h.each t ht).there i hi
theorem Fam.apart {M:Store} {t:Tr} {T:List Tr} {cnt:Nat} (h:Fam M (t :: T) cnt):∀ i∈t.ids,i ∉ idsT T:=λ i hi hT=>by
 have:=h.once
 rw [idsT_cons,List.nodup_append] at this
 exact this.2.2 i hi i hT rfl
theorem Fam.change {M M':Store} {t t':Tr} {T:List Tr} {cnt cnt':Nat} (h:Fam M (t :: T) cnt) (ht:TreeH M' t'.root t'.ps t'.ids t'.n) (hc:cnt'+t.ids.length=cnt+t'.ids.length) (hs:∀ i,i ∉ t.ids->M i≠none->M' i=M i) (hf:∀ i∈t'.ids,i∈t.ids\/M i=none):Fam M' (t' :: T) cnt':=by
 have hth:=h.there
 have hap:=h.apart
 have hsame:∀ i∈idsT T,M' i=M i:=λ i hi=>hs i (λ e=>hap i e hi) (hth i (by rw [idsT_cons];exact List.mem_append_right _ hi))
 refine ⟨λ x hx=>?_,?_,?_⟩
 ·rcases List.mem_cons.1 hx with rfl | hx
  ·exact ht
  ·exact (h.each x (List.mem_cons_of_mem _ hx)).same λ i hi=>hsame i (idsT_mem.2 ⟨x,hx,hi⟩)
 ·have h1:=h.once
  rw [idsT_cons,List.nodup_append] at h1 ⊢
  refine ⟨ht.once,h1.2.1,λ a ha b hb e=>?_⟩
  subst e
  rcases hf a ha with e | e
  ·exact hap a e hb
  ·exact hth a (by rw [idsT_cons];exact List.mem_append_right _ hb) e
 ·have h1:=h.cnt
  rw [idsT_cons,List.length_append] at h1 ⊢
  omega
theorem Fam.new {M:Store} {T:List Tr} {cnt:Nat} {root:Int} (h:Fam M T cnt) (hr:M root=none):Fam (updS M root (some ⟨2,0,[]⟩)) (⟨root,[],[root],0⟩ :: T) (cnt+1):=by
 have hth:=h.there
 have hsame:∀ i∈idsT T,updS M root (some ⟨2,0,[]⟩) i=M i:=λ i hi=>by
  unfold updS
  rw [if_neg λ e=>hth i hi (by rw [e];exact hr)]
 refine ⟨λ x hx=>?_,?_,?_⟩
 ·rcases List.mem_cons.1 hx with rfl | hx
  ·exact TreeH.new (by simp [updS])
  ·exact (h.each x hx).same λ i hi=>hsame i (idsT_mem.2 ⟨x,hx,hi⟩)
 ·rw [idsT_cons]
  refine List.nodup_append.2 ⟨by simp,h.once,λ a ha b hb e=>?_⟩
  rw [List.mem_singleton] at ha
  subst e ha
  exact hth a hb hr
 ·rw [idsT_cons,List.length_append,<- h.cnt,Nat.add_comm]
  rfl
def fix4 (v:Int):List UInt8:=(List.range 4).map λ k=>UInt8.ofNat (v.toNat / 2 ^ (8*k) % 256)
theorem fix4_len (v:Int):(fix4 v).length=4:=by simp [fix4]
structure Bk where
 name:List UInt8
 t:Tr
def topP (L:List Bk):List Pair:=L.map λ b=>(b.name,fix4 b.t.root)
def insB (b:Bk):List Bk->List Bk
 | []=>[b]
 | x :: l=>if lessB x.name b.name then x :: insB b l else if lessB b.name x.name then b :: x :: l else b :: l
def delB (k:List UInt8):List Bk->List Bk
 | []=>[]
 | x :: l=>if x.name=k then l else x :: delB k l
def getB (k:List UInt8):List Bk->Option Bk
 | []=>none
 | x :: l=>if x.name=k then some x else getB k l
theorem topP_ins (b:Bk):∀ L:List Bk,topP (insB b L)=insP b.name (fix4 b.t.root) (topP L)
 | []=>rfl
 | x :: l=>by
  have ih:=topP_ins b l
  unfold topP at ih ⊢
  simp only [insB,List.map_cons,insP]
  split
  ·simp only [List.map_cons,ih]
  ·split
   ·simp only [List.map_cons]
   ·simp only [List.map_cons]
theorem topP_get (k:List UInt8):∀ L:List Bk,getP k (topP L)=(getB k L).map λ b=>fix4 b.t.root
 | []=>rfl
 | x :: l=>by
  have ih:=topP_get k l
  unfold topP at ih ⊢
  simp only [getB,List.map_cons,getP]
  split
  ·rfl
  ·exact ih
theorem getB_name {k:List UInt8}:∀ {L:List Bk} {b:Bk},getB k L=some b->b.name=k/\b∈L
 | x :: l,b,h=>by
  simp only [getB] at h
  split at h
  ·rename_i e
   cases h
   exact ⟨e,List.mem_cons_self ..⟩
  ·obtain ⟨h1,h2⟩:=getB_name h
   exact ⟨h1,List.mem_cons_of_mem _ h2⟩
def RiseB (L:List Bk):Prop:=Rising (topP L)
theorem RiseB.tail {x:Bk} {l:List Bk} (h:RiseB (x :: l)):(∀ b∈l,lessB x.name b.name=true)/\RiseB l:=by
 obtain ⟨h1,h2⟩:=h
 exact ⟨λ b hb=>h1 (b.name,fix4 b.t.root) (List.mem_map_of_mem (f:=λ b:Bk=>(b.name,fix4 b.t.root)) hb),h2⟩
theorem delB_perm {k:List UInt8}:∀ {L:List Bk} {b:Bk},getB k L=some b->L.Perm (b :: delB k L)
 | x :: l,b,h=>by
  simp only [getB] at h
  simp only [delB]
  split at h
  ·rename_i e
   cases h
   rw [if_pos e]
  ·rename_i e
   rw [if_neg e]
   exact ((delB_perm h).cons x).trans (List.Perm.swap ..)
theorem insB_perm {b':Bk}:∀ {L:List Bk},RiseB L->(insB b' L).Perm (b' :: delB b'.name L)
 | [],_=>List.Perm.refl _
 | x :: l,h=>by
  obtain ⟨h1,h2⟩:=h.tail
  simp only [insB,delB]
  split
  ·rename_i e
   rw [if_neg (lessB_ne e)]
   exact ((insB_perm h2).cons x).trans (List.Perm.swap ..)
  ·split
   ·rename_i e e2
    rw [if_neg (lessB_ne e2).symm]
    have:delB b'.name l=l:=by
     have hno:∀ b∈l,b.name≠b'.name:=λ b hb=>(lessB_ne (lessB_trans e2 (h1 b hb))).symm
     clear h h1 h2
     induction l with
     | nil=>rfl
     | cons y l ih =>
      simp only [delB]
      rw [if_neg (hno y (List.mem_cons_self ..)),ih λ b hb=>hno b (List.mem_cons_of_mem _ hb)]
    rw [this]
   ·rename_i e e2
    have hx:x.name=b'.name:=by
     rcases lessB_total x.name b'.name with h | h | h
     ·exact absurd h e
     ·exact h
     ·exact absurd h e2
    rw [if_pos hx]
theorem delB_none {k:List UInt8}:∀ {L:List Bk},getB k L=none->delB k L=L
 | [],_=>rfl
 | x :: l,h=>by
  simp only [getB] at h
  simp only [delB]
  split at h
  ·cases h
  ·rename_i e
   rw [if_neg e,delB_none h]
structure Forest (M:Store) (root:Int) (rids:List Int) (rn:Nat) (L:List Bk) (cnt:Nat):Prop where
 fam:Fam M (⟨root,topP L,rids,rn⟩ :: L.map (·.t)) cnt
 num:∀ b∈L,0<=b.t.root/\b.t.root<4294967296
theorem Forest.rise {M:Store} {root:Int} {rids:List Int} {rn:Nat} {L:List Bk} {cnt:Nat} (h:Forest M root rids rn L cnt):RiseB L:=by
 obtain ⟨⟨k,S,h1,_⟩,_,_⟩:=h.fam.each _ (List.mem_cons_self ..)
 exact h1.tree.rising
theorem Forest.front {M:Store} {root:Int} {rids:List Int} {rn:Nat} {L:List Bk} {cnt:Nat} (h:Forest M root rids rn L cnt) {k:List UInt8} {b:Bk} (hb:getB k L=some b):Fam M (b.t :: ⟨root,topP L,rids,rn⟩ :: (delB k L).map (·.t)) cnt:=
 h.fam.perm ((((delB_perm hb).map (·.t)).cons _).trans (List.Perm.swap ..))
theorem Forest.back {M:Store} {root:Int} {rids:List Int} {rn:Nat} {L:List Bk} {cnt:Nat} {b':Bk} (hr:RiseB L) (hn:∀ b∈L,0<=b.t.root/\b.t.root<4294967296) (h0:0<=b'.t.root/\b'.t.root<4294967296)
  (h:Fam M (⟨root,insP b'.name (fix4 b'.t.root) (topP L),rids,rn⟩ :: b'.t :: (delB b'.name L).map (·.t)) cnt):Forest M root rids rn (insB b' L) cnt:=by
 have hp:=insB_perm (b':=b') hr
 refine ⟨?_,λ b hb=>?_⟩
 ·rw [topP_ins]
  exact h.perm ((hp.map (·.t)).symm.cons _)
 ·rcases List.mem_cons.1 (hp.mem_iff.1 hb) with rfl | hb
  ·exact h0
  ·have:∀ {l:List Bk},b∈delB b'.name l->b∈l:=by
    intro l
    induction l with
    | nil=>exact λ h=>h
    | cons x l ih =>
     simp only [delB]
     split
     ·exact List.mem_cons_of_mem _
     ·intro h
      rcases List.mem_cons.1 h with rfl | h
      ·exact List.mem_cons_self ..
      ·exact List.mem_cons_of_mem _ (ih h)
   exact hn b (this hb)
theorem delB_mem {k:List UInt8} {b:Bk}:∀ {l:List Bk},b∈delB k l->b∈l:=by
 intro l
 induction l with
 | nil=>exact λ h=>h
 | cons x l ih =>
  simp only [delB]
  split
  ·exact List.mem_cons_of_mem _
  ·intro h
   rcases List.mem_cons.1 h with rfl | h
   ·exact List.mem_cons_self ..
   ·exact List.mem_cons_of_mem _ (ih h)
theorem getP_of {k v:List UInt8}:∀ {l:List Pair},Rising l->(k,v)∈l->getP k l=some v
 | q :: l,h,hm=>by
  obtain ⟨h1,h2⟩:=h
  simp only [getP]
  rcases List.mem_cons.1 hm with rfl | hm
  ·simp
  ·rw [if_neg (lessB_ne (h1 _ hm))]
   exact getP_of h2 hm
-- how many pages a tree can have, by its pairs
theorem seg_level {M:Store} {d k:Nat} {hi:Option Bytes} {l:Nat} (hT:∀ id lo hi ps ids,TreeAt M d k id lo hi ps ids->ps≠[]->meas (λ _=>1) (λ _=>1) M k id l<=ps.length) :
  ∀ {L:List Child} {ps:List Pair} {ids:List Int},Seg (Sub M d k) L hi ps ids->measL (λ _=>1) (λ _=>1) M k L l<=ps.length
 | [],_,_,⟨h1,_⟩=>by subst h1;exact Nat.le_refl _
 | c :: L,_,_,⟨p1,p2,i1,i2,h1,h2,h3,h4⟩=>by
  subst h1
  have q1:=hT _ _ _ _ _ h3.1 h3.2
  have q2:=seg_level hT h4
  show meas (λ _=>1) (λ _=>1) M k c.page l+measL (λ _=>1) (λ _=>1) M k L l<=_
  rw [List.length_append]
  omega
theorem tree_level {M:Store} {d:Nat}:∀ {k:Nat} {id:Int} {lo:Bytes} {hi:Option Bytes} {ps:List Pair} {ids:List Int},TreeAt M d k id lo hi ps ids->ps≠[]->∀ l,l<=k->meas (λ _=>1) (λ _=>1) M k id l<=ps.length
 | 0,id,lo,hi,ps,ids,h,hne,l,hl=>by
  have:=List.length_pos_iff.2 hne
  have e:l=0:=by omega
  subst e
  rw [meas0]
  exact this
 | k+1,id,lo,hi,ps,ids,⟨c,L,i2,h1,h2,h3,h4,h5,h6,h7⟩,hne,l,hl=>by
  have hm:=meas_up (f:=λ _=>1) (g:=λ _=>1) (k:=k) h1 h2 h3
  by_cases hlk:l=k+1
  ·subst hlk
   rw [hm.1]
   exact List.length_pos_iff.2 hne
  ·rw [hm.2 l (by omega),measL_head]
   exact seg_level (λ id lo hi ps ids h hne=>tree_level h hne l (by omega)) h6
theorem lsum_const (f:Nat->Nat) (c:Nat):∀ n,(∀ l,l<n->f l<=c)->lsum f n<=n*c
 | 0,_=>by simp [lsum]
 | n+1,h=>by
  have h1:=lsum_const f c n λ l hl=>h l (by omega)
  have h2:=h n (by omega)
  simp only [lsum]
  rw [Nat.succ_mul]
  omega
theorem Hist.few {M:Store} {k:Nat} {root:Int} {S:Nat->Nat} {n:Nat} (h:Hist M k root S n):k<=n:=by
 have h0:=h.pot0
 have hl:∀ l,S (l+1)=0\/S (l+1)+(l+1)<=n:=by
  intro l
  induction l with
  | zero =>
   have h1:=h.potl 0
   simp only [Nat.zero_add] at h1 ⊢
   omega
  | succ l ih =>
   have h1:=h.potl (l+1)
   omega
 apply Decidable.byContradiction
 intro hk
 have ht:=h.top n (by omega)
 cases n with
 | zero=>omega
 | succ m=>have:=hl m;omega
def ndW (n:Nat) (ps:List Pair):Nat:=240*(if ps.length<=1 then 1 else min n 17*ps.length+1)+sumV ps+239*ps.length
def ndN (n:Nat) (ps:List Pair):Nat:=240*(19+9776*n / 2924)+sumV ps+239*ps.length
def ndP (n:Nat) (ps:List Pair):Nat:=min (ndW n ps) (ndN n ps)
theorem ndP_W (n:Nat) (ps:List Pair):ndP n ps<=ndW n ps:=Nat.min_le_left _ _
theorem ndP_N (n:Nat) (ps:List Pair):ndP n ps<=ndN n ps:=Nat.min_le_right _ _
theorem lsum_succ (S:Nat->Nat):∀ m,lsum S (m+1)=S 0+lsum (λ l=>S (l+1)) m
 | 0=>by simp [lsum]
 | m+1=>by rw [lsum,lsum_succ S m];simp only [lsum];omega
theorem lsum_pot {S:Nat->Nat} (h:∀ l,94*S (l+1)<=51*S l):∀ m,94*lsum (λ l=>S (l+1)) m<=51*lsum S m
 | 0=>by simp [lsum]
 | m+1=>by have:=h m;have:=lsum_pot h m;simp only [lsum];omega
theorem meas_top {M:Store} {d:Nat}:∀ {k:Nat} {id:Int} {lo:Bytes} {hi:Option Bytes} {ps:List Pair} {ids:List Int},TreeAt M d k id lo hi ps ids->meas (λ _=>1) (λ _=>1) M k id k=1
 | 0,_,_,_,_,_,_=>by rw [meas0]
 | k+1,_,_,_,_,_,⟨c,L,i2,h1,h2,h3,h4,h5,h6,h7⟩=>by
  have hm:=meas_up (f:=λ _=>1) (g:=λ _=>1) (k:=k) h1 h2 h3
  rw [hm.1]
theorem TreeH.needN {M:Store} {root:Int} {ps:List Pair} {ids:List Int} {n:Nat} (h:TreeH M root ps ids n) (hn:n<=20000):240*ids.length<=ndN n ps:=by
 obtain ⟨⟨k,S,h1,h2⟩,_,_⟩:=h
 have hk:k<=17:=h2.high17 hn
 have hl:=tree_pages h1.tree
 have h0:=h2.pot0
 have hc:lsum (λ l=>meas (λ _=>1) (λ _=>1) M k root l) (k+1)<=lsum (λ l=>1+S l) (k+1):=lsum_le λ l _=>h2.cnt l
 rw [lsum_add (λ _=>1) S] at hc
 have h1c:=lsum_const (λ _=>1) 1 (k+1) λ _ _=>Nat.le_refl _
 have hs:=lsum_succ S k
 have hp:=lsum_pot (S:=S) (λ l=>by have:=h2.potl l;omega) k
 have hm:lsum S k<=lsum S (k+1):=Nat.le_add_right _ _
 unfold ndN
 have hdiv:lsum S (k+1)<=9776*n / 2924:=by
  rw [Nat.le_div_iff_mul_le (by omega)]
  omega
 omega
theorem TreeH.needW {M:Store} {root:Int} {ps:List Pair} {ids:List Int} {n:Nat} (h:TreeH M root ps ids n) (hn:n<=20000):240*ids.length<=ndW n ps:=by
 obtain ⟨⟨k,S,h1,h2⟩,_,_⟩:=h
 have hk:k<=min n 17:=by have:=h2.high17 hn;have:=h2.few;omega
 have hl:=tree_pages h1.tree
 have htop:=meas_top h1.tree
 unfold ndW
 split
 ·rename_i hp
  obtain rfl:=h1.low hp
  simp only [lsum,Nat.zero_add] at hl
  rw [htop] at hl
  omega
 ·rename_i hp
  have hne:ps≠[]:=by
   intro e
   subst e
   simp at hp
  have hc:lsum (λ l=>meas (λ _=>1) (λ _=>1) M k root l) k<=k*ps.length:=lsum_const _ _ _ λ l hl=>tree_level h1.tree hne l (by omega)
  have hc2:k*ps.length<=min n 17*ps.length:=Nat.mul_le_mul_right _ hk
  simp only [lsum] at hl
  rw [htop] at hl
  omega
theorem TreeH.need {M:Store} {root:Int} {ps:List Pair} {ids:List Int} {n:Nat} (h:TreeH M root ps ids n) (hn:n<=20000):240*ids.length<=ndP n ps:=by
 have h1:=h.needW hn
 have h2:=h.needN hn
 unfold ndP
 omega
def ndT:List Tr->Nat
 | []=>0
 | t :: T=>ndP t.n t.ps+ndT T
theorem Fam.need {M:Store}:∀ {T:List Tr} {cnt:Nat},Fam M T cnt->(∀ t∈T,t.n<=20000)->240*cnt<=ndT T
 | [],cnt,h,_=>by rw [h.cnt];simp [idsT]
 | t :: T,cnt,h,hn=>by
  have h1:=(h.each t (List.mem_cons_self ..)).need (hn t (List.mem_cons_self ..))
  have hT:Fam M T (idsT T).length:=by
   have ho:=h.once
   rw [idsT_cons,List.nodup_append] at ho
   exact ⟨λ x hx=>h.each x (List.mem_cons_of_mem _ hx),ho.2.1,rfl⟩
  have h2:=Fam.need hT λ x hx=>hn x (List.mem_cons_of_mem _ hx)
  have h3:=h.cnt
  rw [idsT_cons,List.length_append] at h3
  simp only [ndT]
  omega
structure Roomy (most:Nat) (rn:Nat) (L:List Bk):Prop where
 top:rn<=20000
 each:∀ b∈L,b.t.n<=20000
 room:ndT (⟨0,topP L,[],rn⟩ :: L.map (·.t)) / 240+51<=most
theorem Forest.room {M:Store} {root:Int} {rids:List Int} {rn:Nat} {L:List Bk} {cnt most:Nat} (h:Forest M root rids rn L cnt) (hr:Roomy most rn L):cnt+51<=most:=by
 have:=h.fam.need λ t ht=>by
  rcases List.mem_cons.1 ht with rfl | ht
  ·exact hr.top
  ·obtain ⟨b,hb,rfl⟩:=List.mem_map.1 ht
   exact hr.each b hb
 have h2:=hr.room
 simp only [ndT] at this h2
 omega
def AfterB (most rn:Nat) (L:List Bk) (name:List UInt8) (ps':List Pair) (n':Nat):Prop:=
 ndT (⟨0,topP L,[],rn⟩ :: L.map (·.t)) / 240+98<=most\/n'<=20000/\ndT (⟨0,topP L,[],rn⟩ :: ⟨0,ps',[],n'⟩ :: (delB name L).map (·.t)) / 240+50<=most
theorem AfterB.room {M M2:Store} {root r:Int} {rids ids2:List Int} {rn n' cnt cnt2 most:Nat} {L:List Bk} {name:List UInt8} {ps':List Pair} (ha:AfterB most rn L name ps' n') (h:Forest M root rids rn L cnt) (hr:Roomy most rn L) (hc:cnt2<=cnt+48) (h2:Fam M2 (⟨root,topP L,rids,rn⟩ :: ⟨r,ps',ids2,n'⟩ :: (delB name L).map (·.t)) cnt2):cnt2+50<=most:=by
 rcases ha with ha | ⟨hn,ha⟩
 ·have:=h.fam.need λ t ht=>by
   rcases List.mem_cons.1 ht with rfl | ht
   ·exact hr.top
   ·obtain ⟨b,hb,rfl⟩:=List.mem_map.1 ht
    exact hr.each b hb
  simp only [ndT] at this ha
  omega
 ·have:=h2.need λ t ht=>by
   rcases List.mem_cons.1 ht with rfl | ht
   ·exact hr.top
   ·rcases List.mem_cons.1 ht with rfl | ht
    ·exact hn
    ·obtain ⟨b,hb,rfl⟩:=List.mem_map.1 ht
     exact hr.each b (delB_mem hb)
  simp only [ndT] at this ha
  omega
theorem leFix:∀ v:Nat,v<4294967296->v % 256+256*(v / 256 % 256+256*(v / 65536 % 256+256*(v / 16777216 % 256+256*0)))=v:=by
 intro v hv
 omega
def goodKV (k v:List UInt8):Bool:=decide (1<=k.length) && decide (k.length<=40) && decide (v.length<=2000)
theorem goodKV_of {k v:List UInt8} (h:goodKV k v=true):1<=k.length/\k.length<=40/\v.length<=2000:=by
 unfold goodKV at h
 simp only [Bool.and_eq_true,decide_eq_true_eq] at h
 exact ⟨h.1.1,h.1.2,h.2⟩
end Go.Ev
namespace Go.Ev
open Go.Proofs Go.RowKit
def leNat:List UInt8->Nat
 | []=>0
 | b :: l=>b.toNat+256*leNat l
theorem size_list (s:ByteArray):s.data.toList.length=s.size:=by rw [Array.length_toList];rfl
theorem leNat_lt:∀ l:List UInt8,leNat l<2 ^ (8*l.length)
 | []=>by decide
 | b :: l=>by
  have h1:=leNat_lt l
  have h2:=b.toNat_lt
  have e:2 ^ (8*(b :: l).length)=256*2 ^ (8*l.length):=by
   rw [List.length_cons,show 8*(l.length+1)=8+8*l.length by omega,Nat.pow_add]
  rw [e]
  show b.toNat+256*leNat l<_
  omega
theorem leNat_snoc:∀ (l:List UInt8) (x:UInt8),leNat (l++[x])=leNat l+x.toNat*2 ^ (8*l.length)
 | [],x=>by simp [leNat]
 | b :: l,x=>by
  have e:2 ^ (8*(b :: l).length)=256*2 ^ (8*l.length):=by
   rw [List.length_cons,show 8*(l.length+1)=8+8*l.length by omega,Nat.pow_add]
  rw [e]
  show b.toNat+256*leNat (l++[x])=b.toNat+256*leNat l+_
  rw [leNat_snoc l x,Nat.mul_add,Nat.mul_left_comm 256]
  omega
theorem or_add (a b k:Nat) (h:a<2 ^ k):a ||| b*2 ^ k=a+b*2 ^ k:=by
 rw [Nat.or_comm,Nat.mul_comm b,<- Nat.two_pow_add_eq_or_of_lt h,Nat.add_comm]
theorem wrap64_nat {a:Nat} (h:a<9223372036854775808):wrap64 (a:Int)=a:=by unfold wrap64;omega
theorem or_i64 (a b:Nat) (ha:a<9223372036854775808) (hb:b<9223372036854775808):bits .or .i64 (a:Int) (b:Int)=((a ||| b:Nat):Int):=by
 have hx:a ||| b<2 ^ 63:=Nat.or_lt_two_pow (by omega) (by omega)
 have h1:(BitVec.ofInt 64 (a:Int)).toNat=a:=by
  rw [BitVec.ofInt_natCast,BitVec.toNat_ofNat];exact Nat.mod_eq_of_lt (by omega)
 have h2:(BitVec.ofInt 64 (b:Int)).toNat=b:=by
  rw [BitVec.ofInt_natCast,BitVec.toNat_ofNat];exact Nat.mod_eq_of_lt (by omega)
 show IntKind.i64.wrap ((BitVec.ofInt 64 (a:Int) ||| BitVec.ofInt 64 (b:Int)).toNat:Int)=_
 rw [BitVec.toNat_or,h1,h2]
 rw [IntKind.wrap_i64]
 omega
theorem or_byte (l:List UInt8) (x:UInt8) (hl:l.length<=6):bits .or .i64 (leNat l:Nat) (wrap64 (wrap64 (x.toNat:Int)*2 ^ (8*l.length)))=(leNat (l++[x]):Nat):=by
 have h1:=leNat_lt l
 have h2:=x.toNat_lt
 have hp:2 ^ (8*l.length)<=2 ^ 48:=Nat.pow_le_pow_right (by decide) (by omega)
 have h3:x.toNat*2 ^ (8*l.length)<9223372036854775808:=by
  have:x.toNat*2 ^ (8*l.length)<=255*2 ^ 48:=Nat.mul_le_mul (by omega) hp
  omega
 have e:(wrap64 (x.toNat:Int)*2 ^ (8*l.length):Int)=((x.toNat*2 ^ (8*l.length):Nat):Int):=by
  rw [wrap64_nat (by omega)]
  simp
 rw [e,wrap64_nat h3,or_i64 _ _ (by omega) h3,or_add _ _ _ h1,leNat_snoc]
theorem leNat_fix4 (v:Int) (h0:0<=v) (h1:v<4294967296):leNat ((⟨(fix4 v).toArray⟩:ByteArray).data.toList.take 4)=v.toNat:=by
 have e:(⟨(fix4 v).toArray⟩:ByteArray).data.toList.take 4=fix4 v:=by
  show (fix4 v).take 4=fix4 v
  exact List.take_of_length_le (by rw [fix4_len];exact Nat.le_refl _)
 rw [e]
 have hb:∀ x:Nat,(UInt8.ofNat (x % 256)).toNat=x % 256:=λ x=>UInt8.toNat_ofNat_of_lt' (Nat.mod_lt _ (by decide))
 have e2:fix4 v=[UInt8.ofNat (v.toNat % 256),UInt8.ofNat (v.toNat / 256 % 256),UInt8.ofNat (v.toNat / 65536 % 256),UInt8.ofNat (v.toNat / 16777216 % 256)]:=by
  unfold fix4
  simp [List.range_succ]
 rw [e2]
 simp only [leNat,hb]
 exact leFix v.toNat (by omega)
theorem unfix4_ok (s:ByteArray) (hs:s.size=4) (w:World) :
  Calls Tryz.prog 82 #[.string s,.int .i64 0,.int .i64 4] w λ e w'=>e=.returned (.tuple #[.int .i64 (leNat (s.data.toList.take 4):Nat),.int .i64 0])/\w=w':=by
 have hsz:=size_list s
 rw [hs] at hsz
 go_enter Tryz.func82,Tryz.ntmps82
 go_wp2_with (fail)
 go_loopg [8,35] 4 (λ gk s8 s35 wr=>∃ j:Nat,s8=.int .i64 (leNat (s.data.toList.take j):Nat)/\s35=.int .i64 (j:Int)/\j+gk=4/\wr=w)
 case atStart=>exact ⟨0,rfl,rfl,rfl,rfl⟩
 case round =>
  obtain ⟨j,rfl,rfl,hj,rfl⟩:=hrel
  by_cases h4:j<4
  ·have h4':(j:Int)<4:=by omega
   have hj0:(0:Int)<=(j:Int):=by omega
   have hw1:IntKind.i64.wrap ((j:Int)+1)=(j:Int)+1:=IntWalk.i64_in _ (by omega)
   have hlt:j<s.data.toList.length:=by omega
   have hjs:j<s.size:=by omega
   have ht:s.data.toList.take (j+1)=s.data.toList.take j++[s[j]]:=by
    rw [List.take_add_one,List.getElem?_eq_getElem hlt]
    rfl
   have hlen:(s.data.toList.take j).length=j:=by rw [List.length_take];omega
   have hb:=or_byte (s.data.toList.take j) s[j] (by omega)
   rw [hlen,<- ht] at hb
   have HB:=Hdz hb
   clear hb ht hlen hsz
   go_wp2_with (fail)
   rw [HB.out]
   go_roundg (gk-1)
   case measure=>omega
   case rel=>exact ⟨j+1,rfl,by simp,by omega,rfl⟩
  ·have h4':¬ (j:Int)<4:=by omega
   have e:j=4:=by omega
   subst e
   go_wp2_with (fail)
   refine bodyPost_ret (v:=.tuple #[.int .i64 (leNat (s.data.toList.take 4):Nat),.int .i64 0]) (by simp [results,Tryz.results82,go_sem]) rfl ?_
   exact ⟨rfl,rfl⟩
theorem leftmost_any (v:Value) (w:World):Calls Tryz.prog 167 #[v] w λ e w'=>e=.returned (.int .i64 0)/\w=w':=by
 go_enter Tryz.func167,Tryz.ntmps167
 go_wp2
 go_ret
 exact ⟨rfl,rfl⟩
theorem seekpick_any (A:Option Addr) (n c bx:Nat) (L:List Child) (key:Bytes) (w:World) (hb:w.cell? ⟨bx,0,none⟩=some (strV key)) (hv:Sl w 2 (.slice A n c) n (childrenCs L)) (hn:n<=100000) (hr:rightC L=true) :
  Calls Tryz.prog 163 #[.slice A n c,.pointer (some ⟨bx,0,none⟩)] w λ e w'=>e=.returned (.int .i64 (findC key L:Int))/\w=w':=by
 have HF:=Hdz (findC_any A n c L key w hv hn hr)
 go_enter Tryz.func163,Tryz.ntmps163
 go_wp2_with (fail)
 go_must (refine HF.out.mono ?_)
 rintro e w1 ⟨rfl,rfl⟩
 go_wp2_with (fail)
 go_ret
 exact ⟨rfl,rfl⟩
end Go.Ev
