/-
  Texts of this claim.
-/
import Derived.Test.YtmfoiaaehkandaaGreatDoorMBGwBuck1
set_option linter.unusedVariables false
set_option linter.unusedSimpArgs false
set_option maxHeartbeats 2000000
set_option maxRecDepth 100000
namespace Go.Ev
open Go.Proofs Go.RowKit
section
variable {p bb most rn:Nat} {S:Nat->Prop} {root:Int} {L:List Bk} {W W':World}
theorem del1_ok {c:Pc} {M:Store} {cnt g0 g1 n:Nat} {r:Int} {ps:List Pair} {ids:List Int} (key:Bytes) (e0:W.cell? ⟨g0,0,none⟩=some (ptrV bb)) (e1:W.cell? ⟨g1,0,none⟩=some (strV key)) (c0:W.cell? ⟨bb,0,none⟩=some (ptrV p))
  (hp:PgOk W p c most M cnt) (hT:TreeH M r ps ids n) (hk1:1<=key.length) (hk2:key.length<=40) (hin:(getP key ps).isSome=true) (hn:n<=20000) (hm:most<=80000) (hroom:cnt+50<=most) :
  Calls Tryz.prog 138 #[.int .i64 r,ptrV g0,ptrV g1] W (PutGP p c most M cnt ids (delP key ps) n W):=by
 have hids:=hp.few hT.once hT.there
 have HP:=Hdz (treeDelG_ok r key ps ids n (hp.below (Below.refl _ W).drew) hT hk1 hk2 hin hn (by omega) (.inl hroom))
 clear hp hT hids hin
 go_enter Tryz.func138,Tryz.ntmps138
 go_wp2_with (fail)
 refine wRz ?_
 try simp only [lAz]
 refine tA 4 ?_;try simp only [lAz]
 refine rA 0 (v:=?_) (hy:=?hy) ?_;case hy=>(intro w hE;have q0:=hE.cell e0;go_simp;try with_reducible rfl)
 try simp only [lAz]
 refine tA 1 ?_;try simp only [lAz]
 refine tA 2 ?_;try simp only [lAz]
 refine rA 3 (v:=?_) (hy:=?hy) ?_;case hy=>(intro w hE;have q0:=hE.cell c0;go_simp;try with_reducible rfl)
 try simp only [lAz]
 refine rA 5 (v:=?_) (hy:=?hy) ?_;case hy=>(intro w hE;have q0:=hE.cell e1;go_simp;try with_reducible rfl)
 try simp only [lAz]
 refine rZz 6 λ K hK=>?_;go_simp
 (go_must (refine HP.out.mono ?_);intro e w3 hput)
 obtain ⟨r',M',c',cnt',ids',rfl,q1,q2,q3,q4,q5,hK⟩:=hput
 have HE:Hid (PutGP p c most M cnt ids (delP key ps) n W (.returned (.tuple #[.int .i64 r',.int .i64 0])) w3):=
  ⟨r',M',c',cnt',ids',rfl,q1,q2,q3,q4,q5,⟨(Keeps.of_below (S:=c.S p) (Below.refl _ W).drew).trans hK.keeps λ i _ e=>e,λ j e=>hK.sub j e,hK.mb,hK.db,hK.wb⟩⟩
 clear q1 q2 q3 q4 q5 hK
 go_simp
 apply hK
 clear hK K
 try simp only [lAz]
 refine tA 7 ?_;try simp only [lAz]
 refine tA 8 ?_;try simp only [lAz]
 refine rZz 9 λ K hK=>?_;go_simp;apply hK;clear hK K
 refine rZz 10 λ K hK=>?_;go_simp;apply hK;clear hK K
 refine wDz ?_
 go_wp2_with (fail)
 refine bodyPost_ret (v:=.tuple #[.int .i64 r',.int .i64 0]) (by simp [results,Tryz.results138,go_sem]) rfl ?_
 exact HE.out
theorem delB_ok (name key:Bytes) (b:Bk) (h:BkS p bb most S root rn L W) (hb:getB name L=some b) (hR:Roomy most rn L) (hA:AfterB most rn L name (delP key b.t.ps) b.t.n) (hm:most<=80000) (hk1:1<=name.length) (hk2:name.length<=40) (hg1:1<=key.length) (hg2:key.length<=40) (hin:(getP key b.t.ps).isSome=true) :
  Calls Tryz.prog 86 #[ptrV bb,strV name,strV key] W (ChgP p bb most S (.int .i64 0) (TurnB L rn name (delP key b.t.ps) b.t.n) W):=by
 have hbn:=hR.each b (getB_name hb).2
 obtain ⟨W1,hW1⟩:=nmz ((W.alloc (.cells #[ptrV bb] 46)).alloc (.cells #[strV key] 9))
 have hb1:Below W.heap.size W W1:=by rw [<- hW1];exact ((Below.refl _ _).alloc (Nat.le_refl _) _).alloc (by simp) _
 have k0:Blk W1 W.heap.size 46 #[ptrV bb]:=by rw [<- hW1];exact (Blk.new _ _ _).alloc _
 have k1:Blk W1 (W.heap.size+1) 9 #[strV key]:=by rw [<- hW1];exact Blk.new' (by simp)
 have hbk1:=h.below hb1
 have hC:=change_ok 138 #[ptrV W.heap.size,ptrV (W.heap.size+1)] (enters_of Tryz.func138 (by kernel_rfl) rfl) name b (delP key b.t.ps) b.t.n hbk1 hb hR hA hm hk1 hk2
  (λ W2 c M cnt hW2 hp hT hroom=>del1_ok key ((Blk.below' k0 hW2).cell 0) ((Blk.below' k1 hW2).cell 0) ((hbk1.below hW2).blk.cell 0) hp hT hg1 hg2 hin hbn hm hroom)
 have HC:=Hdz hC
 have HW:=Hdz hW1
 have HB:=Hdz hb1
 have e0:W1.cell? ⟨W.heap.size,0,none⟩=some (ptrV bb):=k0.cell 0
 clear hC k0 k1 hbk1 h hW1 hb1 hb hin
 have e0':((W.alloc (.cells #[ptrV bb] 46)).alloc (.cells #[strV key] 9)).cell? ⟨W.heap.size,0,none⟩=some (ptrV bb):=by rw [HW.out];exact e0
 go_enter Tryz.func86,Tryz.ntmps86
 go_wp2_with (fail)
 rw [HW.out]
 go_must (refine HC.out.mono ?_)
 rintro e w2 ⟨S',root',rn',L',rfl,hQ,hbk,hk,hs⟩
 have HE:Hid (ChgP p bb most S (.int .i64 0) (TurnB L rn name (delP key b.t.ps) b.t.n) W (.returned (.int .i64 0)) w2):=by
  refine ⟨S',root',rn',L',rfl,hQ,hbk,(Keeps.of_below (S:=S) HB.out).trans hk λ i _ e=>e,λ k e=>(hs k e).imp id λ e=>Nat.le_trans HB.out.size e⟩
 clear hQ hbk hk hs
 go_wp2_with (fail)
 go_ret
 exact HE.out
def GetBP (L:List Bk) (name key:Bytes) (w:World) (e:Ending) (w':World):Prop:=
 ((∃ b v,getB name L=some b/\getP key b.t.ps=some v/\e=.returned (.tuple #[strV v,.int .i64 0]))\/(((getB name L).bind λ b=>getP key b.t.ps)=none/\e=.returned (.tuple #[strV [],.int .i64 7])))/\Below w.heap.size w w'
theorem getB_ok (name key:Bytes) (h:BkS p bb most S root rn L W) (hrn:rn<=20000) (hn:∀ b∈L,b.t.n<=20000) (hk1:1<=name.length) (hk2:name.length<=40) (hg1:1<=key.length) (hg2:key.length<=40) :
  Calls Tryz.prog 95 #[ptrV bb,strV name,strV key] W (GetBP L name key W):=by
 have HT:=Hdz (treeB_ok name h hrn hk1 hk2)
 have HH:=Hdz h
 clear h
 go_enter Tryz.func95,Tryz.ntmps95
 go_wp2_with (fail)
 go_must (refine HT.out.mono ?_)
 rintro e w1 ⟨hq,hb1⟩
 rcases hq with ⟨b,hb,rfl⟩ | ⟨hno,rfl⟩
 ·have hbk:=HH.out.below hb1
  obtain ⟨c,M,rids,cnt,h1,h2,h3,h4⟩:=hbk.ex
  have c0:w1.cell? ⟨bb,0,none⟩=some (ptrV p):=hbk.blk.cell 0
  have hTb:=h2.fam.each b.t (List.mem_cons_of_mem _ (List.mem_map_of_mem (getB_name hb).2))
  have hrb:Rising b.t.ps:=by
   obtain ⟨⟨k,S0,t1,_⟩,_,_⟩:=hTb
   exact t1.tree.rising
  have HG:=Hdz (treeGetL_ok b.t.root key b.t.ps w1 h1 (hTb.l (hn b (getB_name hb).2)) hg1 hg2)
  have HR:=Hdz (Anz hrb (Anz hb hb1))
  clear hbk h1 h2 h3 h4 hTb hrb hb hb1
  go_wp2_with (fail)
  go_must (refine HG.out.mono ?_)
  intro e w2 hq
  obtain ⟨hq,hb2⟩:=getTP_get hq HR.out.1
  have HB:Hid (Below W.heap.size W w2):=HR.out.2.2.trans (hb2.mono HR.out.2.2.size)
  clear hb2
  rcases hq with ⟨v,hv,rfl⟩ | ⟨hv,rfl⟩
  ·have HV:=Hdz hv
   clear hv
   go_wp2_with (fail)
   refine bodyPost_ret (v:=.tuple #[strV v,.int .i64 0]) (by simp [results,Tryz.results95,go_sem]) rfl ?_
   exact ⟨.inl ⟨b,v,HR.out.2.1,HV.out,rfl⟩,HB.out⟩
  ·have HV:Hid (((getB name L).bind λ b=>getP key b.t.ps)=none):=by
    show _=_
    rw [HR.out.2.1]
    exact hv
   clear hv
   go_wp2_with (fail)
   refine bodyPost_ret (v:=.tuple #[strV [],.int .i64 7]) (by simp [results,Tryz.results95,go_sem]) rfl ?_
   exact ⟨.inr ⟨HV.out,rfl⟩,HB.out⟩
 ·have HV:Hid (((getB name L).bind λ b=>getP key b.t.ps)=none):=by
   show _=_
   rw [hno]
   rfl
  have HB:=Hdz hb1
  clear hno hb1
  go_wp2_with (fail)
  refine bodyPost_ret (v:=.tuple #[strV [],.int .i64 7]) (by simp [results,Tryz.results95,go_sem]) rfl ?_
  exact ⟨.inr ⟨HV.out,rfl⟩,HB.out⟩
theorem rangeB_ok (name lo hi:Bytes) (mx:Int) (b:Bk) (h:BkS p bb most S root rn L W) (hb:getB name L=some b) (hrn:rn<=20000) (hn:b.t.n<=20000) (hl:b.t.ps.length<=100000) (hk1:1<=name.length) (hk2:name.length<=40) :
  Calls Tryz.prog 26 #[ptrV bb,strV name,strV lo,strV hi,.int .i64 mx] W (RangePost W.heap.size (rangeP lo hi mx b.t.ps) W):=by
 have HT:=Hdz (treeB_ok name h hrn hk1 hk2)
 have HH:=Hdz (Anz h hb)
 clear h hb
 go_enter Tryz.func26,Tryz.ntmps26
 go_wp2_with (fail)
 go_must (refine HT.out.mono ?_)
 rintro e w1 ⟨hq,hb1⟩
 obtain rfl:e=.returned (.tuple #[.int .i64 b.t.root,.int .i64 0]):=by
  rcases hq with ⟨b2,hb2,rfl⟩ | ⟨hno,_⟩
  ·rw [HH.out.2] at hb2
   cases hb2
   rfl
  ·rw [HH.out.2] at hno
   cases hno
 clear hq
 have hbk:=HH.out.1.below hb1
 obtain ⟨c,M,rids,cnt,h1,h2,h3,h4⟩:=hbk.ex
 have c0:w1.cell? ⟨bb,0,none⟩=some (ptrV p):=hbk.blk.cell 0
 have hTb:=h2.fam.each b.t (List.mem_cons_of_mem _ (List.mem_map_of_mem (getB_name HH.out.2).2))
 have HG:=Hdz (range_any b.t.root lo hi mx b.t.ps w1 h1 (hTb.l hn) hl)
 have HB:=Hdz hb1
 clear hbk h1 h2 h3 h4 hTb hb1
 go_wp2_with (fail)
 go_must (refine HG.out.mono ?_)
 rintro e w2 ⟨v,rfl,hcl,hb2⟩
 obtain ⟨u,hu,hvu⟩:=hcl
 have HE:Hid (RangePost W.heap.size (rangeP lo hi mx b.t.ps) W (.returned (.tuple #[v,.int .i64 0])) w2):=⟨v,rfl,⟨u,own_base hu HB.out.size,hvu⟩,HB.out.trans (hb2.mono HB.out.size)⟩
 clear hu hvu hb2
 go_wp2_with (fail)
 refine bodyPost_ret (v:=.tuple #[v,.int .i64 0]) (by simp [results,Tryz.results26,go_sem]) rfl ?_
 exact HE.out
end
end Go.Ev
