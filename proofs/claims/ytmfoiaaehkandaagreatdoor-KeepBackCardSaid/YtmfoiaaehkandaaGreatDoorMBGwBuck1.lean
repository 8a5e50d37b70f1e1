/-
  Texts of this claim.
-/
import Derived.Test.YtmfoiaaehkandaaGreatDoorMBGwBuck0
import Derived.Test.YtmfoiaaehkandaaGreatDoorMBGwDropT
set_option linter.unusedVariables false
set_option linter.unusedSimpArgs false
set_option maxHeartbeats 4000000
set_option maxRecDepth 100000
namespace Go.Ev
open Go.Proofs Go.RowKit
section
variable {p bb most rn:Nat} {S:Nat->Prop} {root:Int} {L:List Bk} {W W':World}
def NewTP (p:Nat) (c:Pc) (most:Nat) (M:Store) (cnt:Nat) (w:World) (e:Ending) (w':World):Prop:=
 ∃ r c',e=.returned (.tuple #[.int .i64 r,.int .i64 0])/\M r=none/\2<=r/\r<=100000/\PgOk w' p c' most (updS M r (some ⟨2,0,[]⟩)) (cnt+1)/\PgK p c c' w w'
theorem newT_any {c:Pc} {M:Store} {cnt:Nat} (w:World) (h:PgOk w p c most M cnt) (hroom:cnt+3<=most):Calls Tryz.prog 78 #[ptrV p] w (NewTP p c most M cnt w):=by
 have hM:=Hdz (make_any ⟨2,0,[]⟩ w h (by simp [Pg.ok]) hroom)
 clear h
 go_enter Tryz.func78,Tryz.ntmps78
 go_wp2_with (fail)
 go_must (refine hM.out.mono ?_)
 rintro e w1 ⟨r,c',rfl,h1,h2,h3,hp,hk⟩
 have HP:=Hdz hp
 have HK:=Hdz hk
 have H1:=Hdz h1
 clear hp hk h1
 go_wp2_with (fail)
 go_ret2
 exact ⟨r,c',rfl,H1.out,h2,h3,HP.out,HK.out⟩
def ChgP (p bb most:Nat) (S:Nat->Prop) (v:Value) (Q:Nat->List Bk->Prop) (w:World) (e:Ending) (w':World):Prop:=
 ∃ S' root' rn' L',e=.returned v/\Q rn' L'/\BkS p bb most S' root' rn' L' w'/\Keeps S w w'/\∀ k,S' k->S k\/w.heap.size<=k
theorem ChgP.same {v:Value} {Q:Nat->List Bk->Prop} (h:BkS p bb most S root rn L W) (hQ:Q rn L) (hb:Below W.heap.size W W'):ChgP p bb most S v Q W (.returned v) W':=by
 exact ⟨S,root,rn,L,rfl,hQ,h.below hb,Keeps.of_below hb,λ k hk=>.inl hk⟩
theorem SetP.chg {c:Pc} {cnt:Nat} {tp:List Pair} {T:List Tr} {Q:Nat->List Bk->Prop} {w w1 w2:World} {e:Ending} (h:SetP p bb c most tp rn T cnt w1 e w2) (hS:∀ k,c.S p k\/k=bb->S k\/w.heap.size<=k) (hz:w.heap.size<=w1.heap.size) (hk:Keeps S w w1) (hbl:∀ k,k<w.heap.size->(c.S p k\/k=bb)->S k) {L':List Bk}
  (hF:∀ M' root' rids' cnt',Fam M' (⟨root',tp,rids',rn⟩ :: T) cnt'->Forest M' root' rids' rn L' cnt') (hQ:Q rn L'):ChgP p bb most S (.int .i64 0) Q w e w2:=by
 obtain ⟨root',c',M',rids',cnt',rfl,h1,h2,h3,h4,h5,h6,h7⟩:=h
 refine ⟨λ k=>c'.S p k\/k=bb,root',rn,L',rfl,hQ,⟨⟨c',M',rids',cnt',h1,hF _ _ _ _ h2,λ k=>Iff.rfl,h5⟩,h4⟩,hk.trans h6 λ i hi e=>hbl i hi e,λ k e=>?_⟩
 rcases e with e | e
 ·rcases h7 k e with e | e
  ·exact hS k (.inl e)
  ·exact .inr (by omega)
 ·exact hS k (.inr e)
def MadeB (L:List Bk) (rn:Nat) (name:Bytes) (rn':Nat) (L':List Bk):Prop:=
 (getB name L≠none/\L'=L/\rn'=rn)\/(getB name L=none/\∃ r,L'=insB ⟨name,⟨r,[],[r],0⟩⟩ L/\rn'=rn+1)
theorem one_ok (name:Bytes) (h:BkS p bb most S root rn L W) (hR:Roomy most rn L) (hm:most<=80000) (hk1:1<=name.length) (hk2:name.length<=40) :
  Calls Tryz.prog 83 #[ptrV bb,strV name] W (ChgP p bb most S (.int .i64 0) (MadeB L rn name) W):=by
 have HT:=Hdz (treeB_ok name h hR.top hk1 hk2)
 have HH:=Hdz (Anz h hR)
 clear h
 go_enter Tryz.func83,Tryz.ntmps83
 go_wp2_with (fail)
 go_must (refine HT.out.mono ?_)
 rintro e w1 ⟨hq,hb1⟩
 rcases hq with ⟨b,hb,rfl⟩ | ⟨hno,rfl⟩
 ·have HE:Hid (ChgP p bb most S (.int .i64 0) (MadeB L rn name) W (.returned (.int .i64 0)) w1):=ChgP.same HH.out.1 (.inl ⟨by rw [hb];simp,rfl,rfl⟩) hb1
  clear hb hb1
  go_wp2_with (fail)
  go_ret
  exact HE.out
 ·have hbk:=HH.out.1.below hb1
  obtain ⟨c,M,rids,cnt,h1,h2,h3,h4⟩:=hbk.ex
  have hroom:=h2.room HH.out.2
  have c0:w1.cell? ⟨bb,0,none⟩=some (ptrV p):=hbk.blk.cell 0
  have HN:=Hdz (newT_any w1 h1 (by omega))
  have HA:=Hdz (Anz hbk (Anz h1 (Anz h2 (Anz h3 (Anz h4 (Anz hno hb1))))))
  clear hbk h1 h2 h3 h4 hno hb1
  go_wp2_with (fail)
  go_must (refine HN.out.mono ?_)
  rintro e w2 ⟨r,c',rfl,r1,r2,r3,hp2,hK⟩
  obtain ⟨hbk,h1,h2,h3,h4,hno,hb1⟩:=HA.out
  have hz1:=hb1.size
  have hz2:=hK.keeps.size
  have hbk2:=hbk.blk.keeps hK.keeps h4
  have hn2:¬ c'.S p bb:=λ e=>by
   rcases hK.sub bb e with e | e
   ·exact h4 e
   ·have:=hbk.blk.lt;omega
  have hFm:Fam (updS M r (some ⟨2,0,[]⟩)) (⟨root,topP L,rids,rn⟩ :: ⟨r,[],[r],0⟩ :: L.map (·.t)) (cnt+1):=(h2.fam.new r1).perm (List.Perm.swap ..)
  have hSt:=set_ok (p:=p) (bb:=bb) (most:=most) (root:=root) name r hp2 hFm hbk2 hn2 hk1 hk2 (by omega) (by omega) HH.out.2.top (by omega) hm
  have HSt:=Hdz hSt
  have hlt:=HH.out.1.lt
  have hin:∀ k,k<W.heap.size->(c'.S p k\/k=bb)->S k:=λ k hk e=>by
   rcases e with e | e
   ·rcases hK.sub k e with e | e
    ·exact (h3 k).2 (.inl e)
    ·omega
   ·exact (h3 k).2 (.inr e)
  have hin2:∀ k,c'.S p k\/k=bb->S k\/W.heap.size<=k:=λ k e=>by
   by_cases hk:k<W.heap.size
   ·exact .inl (hin k hk e)
   ·exact .inr (by omega)
  have hkk:Keeps S W w2:=(Keeps.of_below (S:=S) hb1).trans hK.keeps λ i _ e=>(h3 i).2 (.inl e)
  have HF:Hid (∀ M' root' rids' cnt',Fam M' (⟨root',insP name (fix4 r) (topP L),rids',rn+1⟩ :: ⟨r,[],[r],0⟩ :: L.map (·.t)) cnt'->Forest M' root' rids' (rn+1) (insB ⟨name,⟨r,[],[r],0⟩⟩ L) cnt'):=λ M' root' rids' cnt' hf =>
   Forest.back (b':=⟨name,⟨r,[],[r],0⟩⟩) h2.rise h2.num ⟨by show (0:Int)<=r;omega,by show r<4294967296;omega⟩ (by rw [delB_none hno];exact hf)
  have HB:=Hdz (Anz hin (Anz hin2 (Anz hkk (Anz hno (Nat.le_trans hz1 hz2)))))
  clear hSt hbk h1 h2 h3 h4 hno hb1 hbk2 hn2 hFm hlt hin hin2 hkk hK hp2 r1 c0
  go_wp2_with (fail)
  go_must (refine HSt.out.mono ?_)
  intro e w3 hset
  obtain ⟨hin,hin2,hkk,hno,hzz⟩:=HB.out
  have hC:ChgP p bb most S (.int .i64 0) (MadeB L rn name) W e w3:=hset.chg hin2 hzz hkk hin HF.out (.inr ⟨hno,r,rfl,rfl⟩)
  obtain ⟨_,_,_,_,he,_⟩:=id hC
  subst he
  have HE:=Hdz hC
  clear hset hin hin2 hkk hno hC
  go_wp2_with (fail)
  go_ret
  exact HE.out
def TurnB (L:List Bk) (rn:Nat) (name:Bytes) (ps':List Pair) (n':Nat) (rn':Nat) (L':List Bk):Prop:=∃ r ids,L'=insB ⟨name,⟨r,ps',ids,n'⟩⟩ L/\rn'=rn+1
/-- A bucket's tree is changed by a function value. -/
theorem change_ok (pf:FuncId) (cap:Array Value) (eg:∀ args w,(callFunc pf args).run Tryz.prog w=.ok (.enter pf args) w) (name:Bytes) (b:Bk) (ps':List Pair) (n':Nat) (h:BkS p bb most S root rn L W) (hb:getB name L=some b) (hR:Roomy most rn L) (hA:AfterB most rn L name ps' n') (hm:most<=80000) (hk1:1<=name.length) (hk2:name.length<=40)
  (hdo:∀ W2 c M cnt,Below W.heap.size W W2->PgOk W2 p c most M cnt->TreeH M b.t.root b.t.ps b.t.ids b.t.n->cnt+50<=most->Calls Tryz.prog pf (#[.int .i64 b.t.root]++cap) W2 (PutGP p c most M cnt b.t.ids ps' n' W2)) :
  Calls Tryz.prog 89 #[ptrV bb,strV name,.func (.func pf) #[] cap] W (ChgP p bb most S (.int .i64 0) (TurnB L rn name ps' n') W):=by
 have HM:=Hdz (may_ok h.blk 0 (by omega))
 have HT:=Hdz (treeB_ok name h hR.top hk1 hk2)
 have HH:=Hdz (Anz h (Anz hR hb))
 have HDo:=Hdz hdo
 clear h hdo hb
 go_enter Tryz.func89,Tryz.ntmps89
 go_wp2_with (fail)
 go_must (refine HM.out.mono ?_)
 rintro e w0 ⟨rfl,rfl⟩
 go_wp2_with (fail)
 go_must (refine HT.out.mono ?_)
 rintro e w1 ⟨hq,hb1⟩
 obtain rfl:e=.returned (.tuple #[.int .i64 b.t.root,.int .i64 0]):=by
  rcases hq with ⟨b2,hb2,rfl⟩ | ⟨hno,_⟩
  ·rw [HH.out.2.2] at hb2
   cases hb2
   rfl
  ·rw [HH.out.2.2] at hno
   cases hno
 clear hq
 have hbk:=HH.out.1.below hb1
 obtain ⟨c,M,rids,cnt,h1,h2,h3,h4⟩:=hbk.ex
 have hroom:=h2.room HH.out.2.1
 have hfr:=h2.front HH.out.2.2
 have hdo:=HDo.out w1 c M cnt hb1 h1 (hfr.each _ (List.mem_cons_self ..)) (by omega)
 have HDo1:=Hdz hdo
 have HA:=Hdz (Anz hbk (Anz h1 (Anz h2 (Anz h3 (Anz h4 (Anz hfr hb1))))))
 clear hbk h1 h2 h3 h4 hb1 hfr hdo
 go_wp2_with (fail)
 go_must (refine HDo1.out.mono ?_)
 rintro e w2 ⟨r,M2,c',cnt2,ids2,rfl,q1,q2,q3,q4,q5,hK⟩
 obtain ⟨hbk,h1,h2,h3,h4,hfr,hb1⟩:=HA.out
 have hz1:=hb1.size
 have hz2:=hK.keeps.size
 have hbk2:=hbk.blk.keeps hK.keeps h4
 have hn2:¬ c'.S p bb:=λ e=>by
  rcases hK.sub bb e with e | e
  ·exact h4 e
  ·have:=hbk.blk.lt;omega
 have hnum:=q2.num q1 hm
 have hFm:Fam M2 (⟨root,topP L,rids,rn⟩ :: ⟨r,ps',ids2,n'⟩ :: (delB name L).map (·.t)) cnt2:=(hfr.change (t':=⟨r,ps',ids2,n'⟩) q1 q3.1 q4 q5).perm (List.Perm.swap ..)
 have hSt:=set_ok (p:=p) (bb:=bb) (most:=most) (root:=root) name r q2 hFm hbk2 hn2 hk1 hk2 hnum.1 hnum.2 HH.out.2.1.top (hA.room h2 HH.out.2.1 q3.2 hFm) hm
 have HSt:=Hdz hSt
 have hin:∀ k,k<W.heap.size->(c'.S p k\/k=bb)->S k:=λ k hk e=>by
  rcases e with e | e
  ·rcases hK.sub k e with e | e
   ·exact (h3 k).2 (.inl e)
   ·omega
  ·exact (h3 k).2 (.inr e)
 have hin2:∀ k,c'.S p k\/k=bb->S k\/W.heap.size<=k:=λ k e=>by
  by_cases hk:k<W.heap.size
  ·exact .inl (hin k hk e)
  ·exact .inr (by omega)
 have hkk:Keeps S W w2:=(Keeps.of_below (S:=S) hb1).trans hK.keeps λ i _ e=>(h3 i).2 (.inl e)
 have HF:Hid (∀ M' root' rids' cnt',Fam M' (⟨root',insP name (fix4 r) (topP L),rids',rn+1⟩ :: ⟨r,ps',ids2,n'⟩ :: (delB name L).map (·.t)) cnt'->Forest M' root' rids' (rn+1) (insB ⟨name,⟨r,ps',ids2,n'⟩⟩ L) cnt'):=λ M' root' rids' cnt' hf =>
  Forest.back (b':=⟨name,⟨r,ps',ids2,n'⟩⟩) h2.rise h2.num hnum hf
 have HB:=Hdz (Anz hin (Anz hin2 (Anz hkk (Nat.le_trans hz1 hz2))))
 clear hSt hbk h1 h2 h3 h4 hb1 hbk2 hn2 hFm hin hin2 hkk hK q1 q2 q3 q4 q5 hfr hnum
 go_wp2_with (fail)
 go_must (refine HSt.out.mono ?_)
 intro e w3 hset
 obtain ⟨hin,hin2,hkk,hzz⟩:=HB.out
 have hC:ChgP p bb most S (.int .i64 0) (TurnB L rn name ps' n') W e w3:=hset.chg hin2 hzz hkk hin HF.out ⟨r,ids2,rfl,rfl⟩
 obtain ⟨_,_,_,_,he,_⟩:=id hC
 subst he
 have HE:=Hdz hC
 clear hset hin hin2 hkk hC
 go_wp2_with (fail)
 go_ret
 exact HE.out
theorem put1_ok {c:Pc} {M:Store} {cnt g0 g1 g2 n:Nat} {r:Int} {ps:List Pair} {ids:List Int} (key v:Bytes) (e0:W.cell? ⟨g0,0,none⟩=some (ptrV bb)) (e1:W.cell? ⟨g1,0,none⟩=some (strV key)) (e2:W.cell? ⟨g2,0,none⟩=some (strV v)) (c0:W.cell? ⟨bb,0,none⟩=some (ptrV p))
  (hp:PgOk W p c most M cnt) (hT:TreeH M r ps ids n) (hg:goodKV key v=true) (hn:n<=20000) (hm:most<=80000) (hroom:cnt+50<=most) :
  Calls Tryz.prog 90 #[.int .i64 r,ptrV g0,ptrV g1,ptrV g2] W (PutGP p c most M cnt ids (insP key v ps) (n+1) W):=by
 obtain ⟨q1,q2,q3⟩:=goodKV_of hg
 have hids:=hp.few hT.once hT.there
 have HP:=Hdz (treePutG_ok r key v ps ids n (hp.below (Below.refl _ W).drew) hT q1 q2 q3 hn (by omega) (.inl hroom))
 clear hp hT hids
 go_enter Tryz.func90,Tryz.ntmps90
 go_wp2_with (fail)
 refine wRz ?_
 try simp only [lAz]
 refine tA 4 ?_;try simp only [lAz]
 refine rA 0 (v:=?_) (hy:=?hy) ?_;case hy=>(intro w hE;have q0:=hE.cell e0;go_simp;try with_reducible rfl)
 try simp only [lAz]
 refine tA 1 ?_;try simp only [lAz]
 refine tA 2 ?_;try simp only [lAz]
 refine rA 3 (v:=?_) (hy:=?hy) ?_;case hy=>(intro w hE;have q0:=hE.cell c0;go_simp;try with_reducible rfl)
 try simp only [lAz]
 refine rA 5 (v:=?_) (hy:=?hy) ?_;case hy=>(intro w hE;have q0:=hE.cell e1;go_simp;try with_reducible rfl)
 try simp only [lAz]
 refine rA 6 (v:=?_) (hy:=?hy) ?_;case hy=>(intro w hE;have q0:=hE.cell e2;go_simp;try with_reducible rfl)
 try simp only [lAz]
 refine rZz 7 λ K hK=>?_;go_simp
 (go_must (refine HP.out.mono ?_);intro e w3 hput)
 obtain ⟨r',M',c',cnt',ids',rfl,q1,q2,q3,q4,q5,hK⟩:=hput
 have HE:Hid (PutGP p c most M cnt ids (insP key v ps) (n+1) W (.returned (.tuple #[.int .i64 r',.int .i64 0])) w3):=
  ⟨r',M',c',cnt',ids',rfl,q1,q2,q3,q4,q5,⟨(Keeps.of_below (S:=c.S p) (Below.refl _ W).drew).trans hK.keeps λ i _ e=>e,λ j e=>hK.sub j e,hK.mb,hK.db,hK.wb⟩⟩
 clear q1 q2 q3 q4 q5 hK
 go_simp
 apply hK
 clear hK K
 try simp only [lAz]
 refine tA 8 ?_;try simp only [lAz]
 refine tA 9 ?_;try simp only [lAz]
 refine rZz 10 λ K hK=>?_;go_simp;apply hK;clear hK K
 refine rZz 11 λ K hK=>?_;go_simp;apply hK;clear hK K
 refine wDz ?_
 go_wp2_with (fail)
 refine bodyPost_ret (v:=.tuple #[.int .i64 r',.int .i64 0]) (by simp [results,Tryz.results90,go_sem]) rfl ?_
 exact HE.out
theorem putB_ok (name key v:Bytes) (b:Bk) (h:BkS p bb most S root rn L W) (hb:getB name L=some b) (hR:Roomy most rn L) (hA:AfterB most rn L name (insP key v b.t.ps) (b.t.n+1)) (hm:most<=80000) (hk1:1<=name.length) (hk2:name.length<=40) (hg:goodKV key v=true) :
  Calls Tryz.prog 49 #[ptrV bb,strV name,strV key,strV v] W (ChgP p bb most S (.int .i64 0) (TurnB L rn name (insP key v b.t.ps) (b.t.n+1)) W):=by
 have hbn:=hR.each b (getB_name hb).2
 obtain ⟨W1,hW1⟩:=nmz (((W.alloc (.cells #[ptrV bb] 46)).alloc (.cells #[strV key] 9)).alloc (.cells #[strV v] 9))
 have hb1:Below W.heap.size W W1:=by rw [<- hW1];exact (((Below.refl _ _).alloc (Nat.le_refl _) _).alloc (by simp) _).alloc (by simp;omega) _
 have k0:Blk W1 W.heap.size 46 #[ptrV bb]:=by rw [<- hW1];exact ((Blk.new _ _ _).alloc _).alloc _
 have k1:Blk W1 (W.heap.size+1) 9 #[strV key]:=by rw [<- hW1];exact (Blk.new' (by simp)).alloc _
 have k2:Blk W1 (W.heap.size+2) 9 #[strV v]:=by rw [<- hW1];exact Blk.new' (by simp)
 have hbk1:=h.below hb1
 have hC:=change_ok 90 #[ptrV W.heap.size,ptrV (W.heap.size+1),ptrV (W.heap.size+2)] (enters_of Tryz.func90 (by kernel_rfl) rfl) name b (insP key v b.t.ps) (b.t.n+1) hbk1 hb hR hA hm hk1 hk2
  (λ W2 c M cnt hW2 hp hT hroom=>put1_ok key v ((Blk.below' k0 hW2).cell 0) ((Blk.below' k1 hW2).cell 0) ((Blk.below' k2 hW2).cell 0) ((hbk1.below hW2).blk.cell 0) hp hT hg hbn hm hroom)
 have HC:=Hdz hC
 have HW:=Hdz hW1
 have HB:=Hdz hb1
 have e0:W1.cell? ⟨W.heap.size,0,none⟩=some (ptrV bb):=k0.cell 0
 clear hC k0 k1 k2 hbk1 h hW1 hb1 hb
 have e0':(((W.alloc (.cells #[ptrV bb] 46)).alloc (.cells #[strV key] 9)).alloc (.cells #[strV v] 9)).cell? ⟨W.heap.size,0,none⟩=some (ptrV bb):=by rw [HW.out];exact e0
 go_enter Tryz.func49,Tryz.ntmps49
 go_wp2_with (fail)
 rw [HW.out]
 go_must (refine HC.out.mono ?_)
 rintro e w2 ⟨S',root',rn',L',rfl,hQ,hbk,hk,hs⟩
 have HE:Hid (ChgP p bb most S (.int .i64 0) (TurnB L rn name (insP key v b.t.ps) (b.t.n+1)) W (.returned (.int .i64 0)) w2):=by
  refine ⟨S',root',rn',L',rfl,hQ,hbk,(Keeps.of_below (S:=S) HB.out).trans hk λ i _ e=>e,λ k e=>(hs k e).imp id λ e=>Nat.le_trans HB.out.size e⟩
 clear hQ hbk hk hs
 go_wp2_with (fail)
 go_ret
 exact HE.out
end
end Go.Ev
