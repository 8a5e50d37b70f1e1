/-
  Texts of this claim.
-/
import Derived.Test.YtmfoiaaehkandaaGreatDoorMBGwTreeG
set_option linter.unusedVariables false
set_option linter.unusedSimpArgs false
set_option maxHeartbeats 2000000
set_option maxRecDepth 100000
namespace Go.Ev
open Go.Proofs Go.RowKit
theorem PgOk.few {w:World} {p most cnt:Nat} {c:Pc} {M:Store} (h:PgOk w p c most M cnt) {D:List Int} (hn:D.Nodup) (hs:∀ i∈D,M i≠none):D.length<=cnt:=by
 obtain ⟨n,md,was,mc,wc,dc,spare,hA,hI,hP,rfl⟩:=h
 have hsub:∀ i∈D,i∈keysE md:=λ i hi=>(hP.key i).2 (by
  cases hq:M i with
  | none=>exact absurd hq (hs i hi)
  | some y=>rfl)
 have h1:D.length<=(keysE md).length:=nodup_len hn hsub
 simpa [keysE] using h1
theorem PgOk.num {w:World} {p most cnt:Nat} {c:Pc} {M:Store} (h:PgOk w p c most M cnt) {r:Int} {ps:List Pair} {ids:List Int} {n0:Nat} (ht:TreeH M r ps ids n0) (hm:most<=80000):0<=r/\r<4294967296:=by
 have hr:r∈ids:=by
  obtain ⟨⟨k,S,h1,_⟩,_,_⟩:=ht
  cases k with
  | zero=>obtain ⟨items,i2,g1⟩:=h1.tree;rw [g1.2.2.2.2.1];simp
  | succ k=>obtain ⟨c,L,i2,g1⟩:=h1.tree;rw [g1.2.2.2.2.2.2];simp
 have hth:=ht.there r hr
 obtain ⟨n,md,was,mc,wc,dc,spare,hA,hI,hP,rfl⟩:=h
 have hk:r∈keysE md:=(hP.key r).2 (by
  cases hq:M r with
  | none=>exact absurd hq hth
  | some y=>rfl)
 have h2:=(hI.cover r).2 (.inl hk)
 have:=hA.len
 omega
structure BkS (p bb most:Nat) (S:Nat->Prop) (root:Int) (rn:Nat) (L:List Bk) (W:World):Prop where
 ex:∃ c M rids cnt,PgOk W p c most M cnt/\Forest M root rids rn L cnt/\(∀ k,S k↔c.S p k\/k=bb)/\¬ c.S p bb
 blk:Blk W bb 137 #[ptrV p,.int .i64 root,.int .i64 0]
section
variable {p bb most rn:Nat} {S:Nat->Prop} {root:Int} {L:List Bk} {W W':World}
theorem BkS.below (h:BkS p bb most S root rn L W) (hb:Below W.heap.size W W'):BkS p bb most S root rn L W':=by
 obtain ⟨c,M,rids,cnt,h1,h2,h3,h4⟩:=h.ex
 exact ⟨⟨c,M,rids,cnt,h1.below hb,h2,h3,h4⟩,Blk.below' h.blk hb⟩
theorem BkS.keeps {F:Nat->Prop} (h:BkS p bb most S root rn L W) (hk:Keeps F W W') (hs:∀ k,S k->¬ F k):BkS p bb most S root rn L W':=by
 obtain ⟨c,M,rids,cnt,h1,h2,h3,h4⟩:=h.ex
 exact ⟨⟨c,M,rids,cnt,h1.keeps hk λ k hk=>hs k ((h3 k).2 (.inl hk)),h2,h3,h4⟩,h.blk.keeps hk (hs bb ((h3 bb).2 (.inr rfl)))⟩
theorem BkS.lt (h:BkS p bb most S root rn L W):∀ k,S k->k<W.heap.size:=λ k hk=>by
 obtain ⟨c,M,rids,cnt,h1,h2,h3,h4⟩:=h.ex
 rcases (h3 k).1 hk with e | e
 ·exact h1.lt k e
 ·subst e;exact h.blk.lt
theorem may_ok (hb:Blk W bb 137 #[ptrV p,.int .i64 root,.int .i64 0]) (m:Int) (hm:0<=m) :
  Calls Tryz.prog 80 #[ptrV bb,.int .i64 m] W λ e w'=>e=.returned (.int .i64 0)/\W=w':=by
 have c0:W.cell? ⟨bb,0,none⟩=some (ptrV p):=hb.cell 0
 have c2:W.cell? ⟨bb,2,none⟩=some (.int .i64 0):=hb.cell 2
 have hm':¬ m<0:=by omega
 clear hb
 go_enter Tryz.func80,Tryz.ntmps80
 go_wp2_with (fail)
 go_ret
 exact ⟨rfl,rfl⟩
theorem getTP_get {key:Bytes} {all:List Pair} {w w':World} {e:Ending} (h:GetTP key all w e w') (hr:Rising all) :
  ((∃ v,getP key all=some v/\e=.returned (.tuple #[strV v,.int .i64 0]))\/(getP key all=none/\e=.returned (.tuple #[strV [],.int .i64 7])))/\Below w.heap.size w w':=by
 obtain ⟨h,hb⟩:=h
 refine ⟨?_,hb⟩
 rcases h with ⟨_,v,h2,rfl⟩ | ⟨h1,rfl⟩
 ·exact .inl ⟨v,getP_of hr (List.mem_of_getElem? h2),rfl⟩
 ·refine .inr ⟨?_,rfl⟩
  cases hq:getP key all with
  | none=>rfl
  | some v =>
   obtain ⟨i,hi,he⟩:=List.getElem_of_mem (getP_some hq)
   have:=(ahead_atT hr (q:=(key,v)) (by rw [List.getElem?_eq_getElem hi,he])).2
   rw [h1] at this
   cases this
def TreeBP (L:List Bk) (name:Bytes) (w:World) (e:Ending) (w':World):Prop:=
 ((∃ b,getB name L=some b/\e=.returned (.tuple #[.int .i64 b.t.root,.int .i64 0]))\/(getB name L=none/\e=.returned (.tuple #[.int .i64 0,.int .i64 7])))/\Below w.heap.size w w'
theorem treeB_ok (name:Bytes) (h:BkS p bb most S root rn L W) (hrn:rn<=20000) (hk1:1<=name.length) (hk2:name.length<=40) :
  Calls Tryz.prog 35 #[ptrV bb,strV name] W (TreeBP L name W):=by
 have HM:=Hdz (may_ok h.blk 1 (by omega))
 obtain ⟨c,M,rids,cnt,h1,h2,h3,h4⟩:=h.ex
 have hT:=(h2.fam.each _ (List.mem_cons_self ..)).l hrn
 have hr:=h2.rise
 have c0:W.cell? ⟨bb,0,none⟩=some (ptrV p):=h.blk.cell 0
 have c1:W.cell? ⟨bb,1,none⟩=some (.int .i64 root):=h.blk.cell 1
 have hG:=treeGetL_ok root name (topP L) W.drew (h1.below (Below.refl _ _).drew) hT hk1 hk2
 have HR:=Hdz hr
 have HG:=Hdz hG
 have HN:=Hdz h2.num
 clear h h1 h2 h3 h4 hT hr hG
 go_enter Tryz.func35,Tryz.ntmps35
 go_wp2_with (fail)
 go_must (refine HM.out.mono ?_)
 rintro e w1 ⟨rfl,rfl⟩
 go_wp2_with (fail)
 refine wRz ?_
 try simp only [lAz]
 refine tA 0 ?_;try simp only [lAz]
 refine tA 1 ?_;try simp only [lAz]
 refine tA 2 ?_;try simp only [lAz]
 refine tA 4 ?_;try simp only [lAz]
 refine tA 5 ?_;try simp only [lAz]
 refine tA 6 ?_;try simp only [lAz]
 refine tA 8 ?_;try simp only [lAz]
 refine rA 3 (v:=?_) (hy:=?hy) ?_;case hy=>(intro w hE;have q0:=hE.cell c0;go_simp;try with_reducible rfl)
 try simp only [lAz]
 refine rA 7 (v:=?_) (hy:=?hy) ?_;case hy=>(intro w hE;have q0:=hE.cell c1;go_simp;try with_reducible rfl)
 try simp only [lAz]
 refine rZz 9 λ K hK=>?_;go_simp
 (go_must (refine HG.out.mono ?_);intro e w2 hq)
 obtain ⟨hq,hb⟩:=getTP_get hq HR.out
 rw [topP_get] at hq
 have HB:Hid (Below W.heap.size W w2):=((Below.refl _ W).drew).trans hb
 clear hb
 rcases hq with ⟨v,hv,rfl⟩ | ⟨hv,rfl⟩
 ·obtain ⟨b,hb,rfl⟩:=Option.map_eq_some_iff.1 hv
  obtain ⟨b1,b2⟩:=HN.out b (getB_name hb).2
  have hu:=unfix4_ok ⟨(fix4 b.t.root).toArray⟩ (by show (fix4 b.t.root).length=4;exact fix4_len _) w2
  rw [leNat_fix4 _ b1 b2,Int.toNat_of_nonneg b1] at hu
  have HU:=Hdz hu
  have HBk:=Hdz hb
  have h4l:((fix4 b.t.root).length:Int)=4:=by rw [fix4_len];rfl
  have HL4:=Hdz h4l
  obtain ⟨s,hs⟩:=nmz (fix4 b.t.root)
  have hsl:s.length=4:=by rw [<- hs,fix4_len]
  rw [hs] at HU ⊢
  have hs4:((s.length:Int)==4)=true:=by rw [hsl];rfl
  have hs5:((s.length:Int) != 4)=false:=by rw [hsl];rfl
  clear hv hu hb h4l hs hsl
  go_simp
  apply hK
  clear hK K
  refine rZz 10 λ K hK=>?_;go_simp;apply hK;clear hK K
  try simp only [lAz]
  refine tA 11 ?_;try simp only [lAz]
  refine tA 12 ?_;try simp only [lAz]
  refine rZz 13 λ K hK=>?_;go_simp;apply hK;clear hK K
  refine rZz 14 λ K hK=>?_;go_simp;apply hK;clear hK K
  refine wDz ?_
  go_wp2_with (fail)
  go_must (refine HU.out.mono ?_)
  rintro e w3 ⟨rfl,rfl⟩
  go_wp2_with (fail)
  refine bodyPost_ret (v:=.tuple #[.int .i64 b.t.root,.int .i64 0]) (by simp [results,Tryz.results35,go_sem]) rfl ?_
  exact ⟨.inl ⟨b,HBk.out,rfl⟩,HB.out⟩
 ·have hv':getB name L=none:=Option.map_eq_none_iff.1 hv
  have HV:=Hdz hv'
  clear hv hv'
  go_simp
  apply hK
  clear hK K
  refine rZz 10 λ K hK=>?_;go_simp;apply hK;clear hK K
  try simp only [lAz]
  refine tA 11 ?_;try simp only [lAz]
  refine tA 12 ?_;try simp only [lAz]
  refine rZz 13 λ K hK=>?_;go_simp;apply hK;clear hK K
  refine rZz 14 λ K hK=>?_;go_simp;apply hK;clear hK K
  refine wDz ?_
  go_wp2_with (fail)
  refine bodyPost_ret (v:=.tuple #[.int .i64 0,.int .i64 7]) (by simp [results,Tryz.results35,go_sem]) rfl ?_
  exact ⟨.inr ⟨HV.out,rfl⟩,HB.out⟩
def SetP (p bb:Nat) (c:Pc) (most:Nat) (tp:List Pair) (rn:Nat) (T:List Tr) (cnt:Nat) (w:World) (e:Ending) (w':World):Prop:=
 ∃ root' c' M' rids' cnt',e=.returned (.int .i64 0)/\PgOk w' p c' most M' cnt'/\Fam M' (⟨root',tp,rids',rn⟩ :: T) cnt'/\cnt'<=cnt+48/\Blk w' bb 137 #[ptrV p,.int .i64 root',.int .i64 0]/\¬ c'.S p bb/\Keeps (λ k=>c.S p k\/k=bb) w w'/\∀ k,c'.S p k->c.S p k\/w.heap.size<=k
theorem set_ok {c:Pc} {M:Store} {cnt:Nat} {rids:List Int} {tp:List Pair} {T:List Tr} (name:Bytes) (r:Int) (h:PgOk W p c most M cnt) (hF:Fam M (⟨root,tp,rids,rn⟩ :: T) cnt) (hb:Blk W bb 137 #[ptrV p,.int .i64 root,.int .i64 0]) (hn:¬ c.S p bb)
  (hk1:1<=name.length) (hk2:name.length<=40) (hr0:0<=r) (hr1:r<4294967296) (hrn:rn<=20000) (hroom:cnt+50<=most) (hmost:most<=80000) :
  Calls Tryz.prog 136 #[ptrV bb,strV name,.int .i64 r] W (SetP p bb c most (insP name (fix4 r) tp) (rn+1) T cnt W):=by
 have hfx:=fix_exact r.toNat 4 W (by omega) (by omega) (by show r.toNat<2 ^ 32;omega)
 rw [Int.toNat_of_nonneg hr0] at hfx
 have e4:leBytes r.toNat 4=fix4 r:=rfl
 rw [e4] at hfx
 have HFx:=Hdz hfx
 have hcn:=hF.cnt
 rw [idsT_cons,List.length_append] at hcn
 simp only at hcn
 have hil:rids.length<=90000:=by omega
 have HP:=Hdz (λ W2 (hW:Below W.heap.size W W2)=>treePutG_ok root name (fix4 r) tp rids rn (h.below hW) (hF.each _ (List.mem_cons_self ..)) hk1 hk2 (by rw [fix4_len];omega) hrn hil (.inl hroom))
 have HH:=Hdz (Anz h (Anz hF (Anz hb hn)))
 clear h hF hb hn hfx e4 hcn
 go_enter Tryz.func136,Tryz.ntmps136
 go_wp2_with (fail)
 go_must (refine HFx.out.mono ?_)
 rintro e w1 ⟨rfl,hb1⟩
 have hbk1:=Blk.below' HH.out.2.2.1 hb1
 have c0:w1.cell? ⟨bb,0,none⟩=some (ptrV p):=hbk1.cell 0
 have c1:w1.cell? ⟨bb,1,none⟩=some (.int .i64 root):=hbk1.cell 1
 have hb1d:Below W.heap.size W w1.drew:=hb1.drew
 have HP1:=Hdz (HP.out w1.drew hb1d)
 have HB1:=Hdz (Anz hb1d hbk1)
 clear hb1 hbk1 hb1d
 go_wp2_with (fail)
 refine wRz ?_
 try simp only [lAz]
 refine tA 0 ?_;try simp only [lAz]
 refine tA 1 ?_;try simp only [lAz]
 refine tA 2 ?_;try simp only [lAz]
 refine tA 4 ?_;try simp only [lAz]
 refine tA 5 ?_;try simp only [lAz]
 refine tA 6 ?_;try simp only [lAz]
 refine tA 8 ?_;try simp only [lAz]
 refine tA 9 ?_;try simp only [lAz]
 refine rA 3 (v:=?_) (hy:=?hy) ?_;case hy=>(intro w hE;have q0:=hE.cell c0;go_simp;try with_reducible rfl)
 try simp only [lAz]
 refine rA 7 (v:=?_) (hy:=?hy) ?_;case hy=>(intro w hE;have q0:=hE.cell c1;go_simp;try with_reducible rfl)
 try simp only [lAz]
 refine rZz 10 λ K hK=>?_;go_simp
 (go_must (refine HP1.out.mono ?_);intro e w2 hput)
 obtain ⟨root',M',c',cnt',ids',rfl,q1,q2,q3,q4,q5,hK⟩:=hput
 obtain ⟨h,hF,hb,hn⟩:=HH.out
 obtain ⟨hb1d,hbk1⟩:=HB1.out
 have hz1:=hb1d.size
 have hbk1d:Blk w1.drew bb 137 #[ptrV p,.int .i64 root,.int .i64 0]:=Blk.below' hbk1 (Below.refl _ w1).drew
 have hbk2:=hbk1d.keeps hK.keeps hn
 have hlt:=hb.lt
 have n1:w2.cell? ⟨bb,1,none⟩=some (.int .i64 root):=hbk2.cell 1
 have f1:=hbk2.frozen 1
 have HE:Hid (SetP p bb c most (insP name (fix4 r) tp) (rn+1) T cnt W (.returned (.int .i64 0)) (w2.setCell ⟨bb,1,none⟩ (.int .i64 root'))):=by
  have hn':¬ c'.S p bb:=λ e=>by
   rcases hK.sub bb e with e | e
   ·exact hn e
   ·have e2:w1.drew.heap.size<=bb:=e
    omega
  have KF:=(Keeps.refl (λ k=>k=bb) w2).setCell (p:=⟨bb,1,none⟩) (λ _=>rfl) (.int .i64 root')
  refine ⟨root',c',M',ids',cnt',rfl,q2.keeps KF (λ k hk e=>hn' (e ▸ hk)),hF.change (t':=⟨root',_,ids',rn+1⟩) q1 q3.1 q4 q5,q3.2,hbk2.set 1 _,hn',?_,λ k hk=>?_⟩
  ·refine (((Keeps.of_below (S:=λ k=>c.S p k\/k=bb) hb1d).trans hK.keeps λ i _ e=>.inl e)).trans KF λ i _ e=>.inr e
  ·rcases hK.sub k hk with e | e
   ·exact .inl e
   ·have e2:w1.drew.heap.size<=k:=e
    exact .inr (by omega)
 clear q1 q2 q3 q4 q5 hK h hF hb hn hb1d hbk1 hbk1d hbk2
 go_simp
 apply hK
 clear hK K
 refine rZz 11 λ K hK=>?_;go_simp;apply hK;clear hK K
 try simp only [lAz]
 refine tA 12 ?_;try simp only [lAz]
 refine tA 13 ?_;try simp only [lAz]
 refine rZz 14 λ K hK=>?_;go_simp;apply hK;clear hK K
 refine rZz 15 λ K hK=>?_;go_simp;apply hK;clear hK K
 refine wDz ?_
 go_wp2_with (fail)
 go_ret
 exact HE.out
end
end Go.Ev
