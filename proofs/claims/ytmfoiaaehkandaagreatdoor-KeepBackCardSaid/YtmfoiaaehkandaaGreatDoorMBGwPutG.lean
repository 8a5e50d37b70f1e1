/-
  Texts of this claim.
-/
import Derived.Test.YtmfoiaaehkandaaGreatDoorMBGwEndG
set_option linter.unusedVariables false
set_option linter.unusedSimpArgs false
namespace Go.Ev
open Go.Proofs Go.RowKit
section
variable {p most cnt:Nat} {c:Pc} {x:Wc} {M:Store} {made dropped:List Int} {w:World}
set_option maxHeartbeats 4000000 in
set_option maxRecDepth 100000 in
theorem treePutG_ok (root:Int) (key v:Bytes) (ps:List Pair) (ids:List Int) (n:Nat) (h:PgOk w p c most M cnt) (ht:TreeH M root ps ids n) (hk1:1<=key.length) (hk2:key.length<=40) (hv:v.length<=2000) (hn:n<=20000) (hil0:ids.length<=90000) (hroom:cnt+50<=most\/(ps.length<=1/\cnt+16<=most)) :
  Calls Tryz.prog 91 #[ptrV p,.int .i64 root,strV key,strV v] w (PutGP p c most M cnt ids (insP key v ps) (n+1) w):=by
 obtain ⟨⟨k,S,hT,hH⟩,hnd,hsh⟩:=ht
 have hk8:=hH.high17 hn
 have hroom:cnt+2*k+16<=most:=by
  rcases hroom with h1 | ⟨h1,h2⟩
  ·omega
  ·have:=hT.low h1
   omega
 obtain ⟨P,lid,items,hway,hPl⟩:=hT.way key (by omega)
 have hPn:=hway.trail.once hT.tree hnd
 obtain ⟨hri,hli,ps',old,hps',hold,hlaw⟩:=put_lawG (v:=v) hT hH hway.trail
 have hat:=hway.at
 have hkey:=isKey_any key w (by omega)
 have e1:decide (1<=key.length)=true:=by simpa using hk1
 have e2:decide (key.length<=40)=true:=by simpa using hk2
 rw [e1,e2] at hkey
 have hnv2:¬ (2000:Int)<(v.length:Int):=by omega
 have HKey:=Hdz hkey
 have HWay:=Hdz (way_ok root key P lid items w h hway)
 have HL:=Hdz (Anz hT (Anz hnd (Anz hsh (Anz hri (Anz hli (Anz hps' (Anz hold (Anz hlaw (Anz hat (Anz h hway))))))))))
 clear hkey e1 e2 hT hnd hsh hri hli hps' hold hlaw hat h hway
 go_enter Tryz.func91,Tryz.ntmps91
 go_wp2_with (fail)
 go_must (refine HKey.out.mono ?_)
 rintro e w0 ⟨rfl,rfl⟩
 go_wp2_with (fail)
 go_must (refine HWay.out.mono ?_)
 rintro e w1 ⟨pv,st,vi,rfl,hstp,hgh,hsteps,hIt,hb1⟩
 obtain ⟨Ap,cp,rfl,_⟩:=Sl.of_own hstp
 unfold OwnsI at hIt
 obtain ⟨Ai,ci,rfl,_⟩:=Sl.of_own hIt
 obtain ⟨hT,hnd,hsh,hri,hli,hps',hold,hlaw,hat,h,hway⟩:=HL.out
 have hz1:=hb1.size
 have hz0:=h.lt
 -- the work
 obtain ⟨W2,hW2e⟩:∃ W2,W2=(w1.alloc (.cells #[.int .i64 lid] 3)).alloc (.cells #[ptrV p,.slice none 0 0,.slice (some ⟨w1.heap.size,0,none⟩) 1 1] 235):=⟨_,rfl⟩
 have hb12:Below w1.heap.size w1 W2:=by rw [hW2e];exact ((Below.refl _ w1).alloc (Nat.le_refl _) _).alloc (by simp) _
 have hz2:W2.heap.size=w1.heap.size+2:=by rw [hW2e];simp
 have hpg2:=(h.below hb1).below hb12
 have hwk:WkOk W2 p ⟨c,w1.heap.size+1,.slice none 0 0,.slice (some ⟨w1.heap.size,0,none⟩) 1 1⟩ most M cnt [] [lid]:=by
  refine ⟨hpg2,?_,(λ e=>by have h5:=hz0 (w1.heap.size+1) e;omega),World.ownsRow_nil _ _ _ _,?_,(λ j hj=>by cases hj),(λ j hj e=>?_),(λ j hj=>by cases hj)⟩
  ·rw [hW2e];exact Blk.new' (by simp)
  ·rw [hW2e]
   exact own_below (own_base (own_of (heap_alloc_new w1 _) (Nat.le_refl _) (Nat.le_refl _) (by unfold maxLen;omega) rfl rfl (λ j hj=>by
    match j with
    | 0=>rfl
    | j+1=>omega)) (Nat.zero_le _)) ((Below.refl _ _).alloc (Nat.le_refl _) _)
  ·simp only [Value.ownBlock,Option.some.injEq] at hj
   have:=hz0 _ e
   omega
 have htrk:Trk c p w1.heap.size w1 W2 ⟨c,w1.heap.size+1,.slice none 0 0,.slice (some ⟨w1.heap.size,0,none⟩) 1 1⟩:=by
  refine ⟨Keeps.of_below hb12,?_,by omega,rfl,rfl,rfl⟩
  rintro j (e | e | e | e)
  ·exact .inl e
  ·simp only at e;exact .inr (by omega)
  ·cases e
  ·simp only [Value.ownBlock,Option.some.injEq] at e
   exact .inr (by omega)
 have hits:∀ (W:World) (x:Wc),Trk c p w1.heap.size w1 W x->Sl W 4 (.slice Ai items.length ci) items.length (itemsCs items):=λ W x ht =>
  Sl.of_own (own_keeps hIt ht.keeps λ j hj e=>by
   have:=hIt.lt j hj
   rcases e with e | e
   ·have:=hz0 j e;omega
   ·omega)
 have hil:items.length<=240:=by have:=layI_ge items;omega
 have HOld:=Hdz (old_any Ai items.length ci items key ps' old hwk (hits _ _ htrk) (by omega) hri hold (λ q hq=>hsh q (hps' q hq)) (by simp))
 have HIt:=Hdz hits
 have HTrk:=Hdz htrk
 have HS:=Hdz (Anz hstp (Anz hgh (Anz hsteps (Anz hIt hb1))))
 have HW2e:=Hdz hW2e
 have HZ:=Hdz hz0
 clear hstp hgh hsteps hIt hb1 hT hnd hsh hri hli hps' hold hlaw hat h hway hwk htrk hits hpg2 hb12 hW2e hz0
 go_wp2_with (fail)
 rw [<- HW2e.out]
 go_must (refine HOld.out.mono ?_)
 rintro e w3 ⟨rfl,x1,hw1,hk1'⟩
 have htrk:=HTrk.out.step hk1'
 have HItem:=Hdz (item_any key v hw1 hk1 hk2 hv (by omega) (by simp))
 have hx1b:=hk1'.same
 simp only at hx1b
 have HTrk:=Hdz htrk
 clear hw1 hk1' htrk
 rw [hx1b] at HItem
 go_wp2_with (fail)
 go_must (refine HItem.out.mono ?_)
 rintro e w4 ⟨it,x2,Mc,newc,rfl,hit1,hit2,hgr,hva,hn9,hw2,hk2'⟩
 have htrk:=HTrk.out.step hk2'
 have hx2b:=hk2'.same.trans hx1b
 obtain ⟨hT,hnd,hsh,hri,hli,hps',hold,hlaw,hat,h,hway⟩:=HL.out
 obtain ⟨hfI,hlaw2⟩:=hlaw Mc it newc hit1 hit2 hgr hva
 have hbo:Below w4.heap.size w4 (w4.alloc (.cells #[strV it.key,strV it.val,.int .i64 it.over,.int .i64 it.size] 223)):=(Below.refl _ w4).alloc (Nat.le_refl _) _
 have htrk5:=htrk.below hbo
 have hSet:=setI_any Ai items.length ci items it _ (HIt.out _ _ htrk5) (by omega) hri
 have hnS:(setI items it).length<=items.length+1:=by
  unfold setI
  simp only [List.length_append,List.length_cons,List.length_take,List.length_drop]
  have:=ahead_le it.key items
  split<;>omega
 have bn:Blk (w4.alloc (.cells #[strV it.key,strV it.val,.int .i64 it.over,.int .i64 it.size] 223)) w4.heap.size 223 #[strV it.key,strV it.val,.int .i64 it.over,.int .i64 it.size]:=Blk.new _ _ _
 have b0:(w4.alloc (.cells #[strV it.key,strV it.val,.int .i64 it.over,.int .i64 it.size] 223)).cell? ⟨w4.heap.size,0,none⟩=some (strV it.key):=bn.cell 0
 have b1:(w4.alloc (.cells #[strV it.key,strV it.val,.int .i64 it.over,.int .i64 it.size] 223)).cell? ⟨w4.heap.size,1,none⟩=some (strV it.val):=bn.cell 1
 have b2:(w4.alloc (.cells #[strV it.key,strV it.val,.int .i64 it.over,.int .i64 it.size] 223)).cell? ⟨w4.heap.size,2,none⟩=some (.int .i64 it.over):=bn.cell 2
 have b3:(w4.alloc (.cells #[strV it.key,strV it.val,.int .i64 it.over,.int .i64 it.size] 223)).cell? ⟨w4.heap.size,3,none⟩=some (.int .i64 it.size):=bn.cell 3
 have HSet:=Hdz hSet
 have HA:=Hdz (Anz hlaw2 (Anz hfI (Anz hgr (Anz hw2 (Anz htrk hn9)))))
 have HX2:=Hdz hx2b
 clear hT hnd hsh hri hli hps' hold hlaw hat h hway hlaw2 hgr hva hw2 hk2' htrk htrk5 hSet hbo bn hit1 hit2 HOld HItem HTrk hfI hx2b hx1b
 go_wp2_with (fail)
 go_must (refine HSet.out.mono ?_)
 rintro e w5 ⟨v5,rfl,own5,hb5⟩
 obtain ⟨A5,c5,rfl,_⟩:=Sl.of_own own5
 obtain ⟨hlaw2,hfI,hgr,hw2,htrk,hn9'⟩:=HA.out
 have hb45:Below w4.heap.size w4 w5:=((Below.refl _ w4).alloc (Nat.le_refl _) _).trans (hb5.mono (by simp))
 have hLv:=leaves_any A5 (setI items it).length c5 (setI items it) (hw2.below hb45) (Sl.of_own own5) hfI (by omega) (by omega) (by simp;omega)
 rw [HX2.out] at hLv
 have htrk:=htrk.below hb45
 have hsz5:w1.heap.size<=w5.heap.size:=htrk.size
 have HLv:=Hdz hLv
 have HA:=Hdz (Anz hlaw2 (Anz hgr htrk))
 clear hLv htrk hlaw2 hfI hgr hw2 hb45 hb5 own5 hn9' b0 b1 b2 b3
 go_wp2_with (fail)
 go_must (refine HLv.out.mono ?_)
 rintro e w6 ⟨kids,M1,new1,x3,kv,rfl,hLd,ownk,nsk,hw3,hk3'⟩
 obtain ⟨hlaw2,hgr,htrk⟩:=HA.out
 have htrk:=htrk.step hk3'
 have hx3b:=hk3'.same.trans HX2.out
 obtain ⟨hFit,hkf,hfin⟩:=hlaw2 kids M1 new1 hLd
 obtain ⟨hT,hnd,hsh,hri,hli,hps',hold,hlaw,hat,h,hway⟩:=HL.out
 obtain ⟨hstp,hgh,hsteps,hIt,hb1⟩:=HS.out
 unfold OwnsC at ownk
 obtain ⟨Ak,ck,rfl,_⟩:=Sl.of_own ownk
 have hz0:=HZ.out
 -- what was made by 'way' lies as it was
 have hkeep:∀ j,w.heap.size<=j->j<w1.heap.size->¬ (c.S p j\/w1.heap.size<=j):=λ j h1 h2 e=>by
  rcases e with e | e
  ·have:=hz0 j e;omega
  ·omega
 have hst6:=own_base (own_keeps hstp htrk.keeps λ j hj=>hkeep j (hstp.lt j hj).1 (hstp.lt j hj).2) (Nat.zero_le _)
 have hstk:StepsOk w6 0 st:=λ s hs=>⟨own_base (own_keeps (hsteps s hs).1 htrk.keeps λ j hj=>hkeep j ((hsteps s hs).1.lt j hj).1 ((hsteps s hs).1.lt j hj).2) (Nat.zero_le _),(hsteps s hs).2⟩
 have hnew1:new1.length<=2:=by
  rcases hLd with ⟨_,_,_,_,_,_,_,rfl⟩ | ⟨_,_,_,_,_,_,_,_,_,_,_,_,_,_,_,rfl⟩<;>simp
 have hAk:Ak=none->ck=0:=by
  rcases ownk.2 with ⟨e,_⟩ | ⟨_,_,_,e,_⟩
  ·simp only [Value.slice.injEq] at e
   exact λ _=>e.2.2
  ·simp only [Value.slice.injEq] at e
   rw [e.1]
   exact λ h=>by cases h
 have hw3':WkOk w6 p x3 most M1 (cnt+(newc++new1).length) ([]++newc++new1) ([lid]++old):=by
  rw [List.length_append,<- Nat.add_assoc]
  exact hw3
 have hfin':∀ root M' new drp,EndG M1 kids P.reverse root M' new drp->Grow M M' ((newc++new1)++new)/\∃ k' ids' S',TopAt M' k' root (insP key v ps) ids'/\Hist M' k' root S' (n+1)/\(ids'++drp++([lid]++old)++P.reverse.map (λ z:Int × Nat × List Child=>z.1)).Perm (ids++(newc++new1)++new):=λ r M' nw dr he=>hfin r M' nw dr he
 have hUp:=upend_ok h hnd hT.tree.there (insP_short hsh hv) hk8 hFit hkf.g hfin' hgh hPl hPn hat hst6 (λ j hj=>hstp.lt j hj) hstk (λ s hs j hj=>(hsteps s hs).1.lt j hj) hb1 htrk hw3' (own_base ownk (Nat.zero_le _)) (λ j hj=>Nat.le_trans hsz5 (ownk.lt j hj).1) nsk hAk (by rw [List.length_append];omega) hroom (by simp;omega) (by
   have:=old_len hold (λ q hq=>hsh q (hps' q hq))
   simp only [List.length_append,List.length_cons,List.length_nil]
   omega) hil0
 rw [hx3b] at hUp
 have HUp:=Hdz hUp
 clear hUp hfin' hFit hfin hgr htrk hnew1 nsk hlaw2 hLd hw3 hw3' hk3' hkf hAk hT hnd hsh hri hli hps' hold hlaw hat h hway hstp hgh hsteps hIt hb1 hz0 hkeep hst6 hstk ownk hx3b
 go_wp2_with (fail)
 go_must (refine HUp.out.mono ?_)
 rintro e w7 ⟨root',rfl,hE7⟩
 have HE7:=Hdz hE7
 clear hE7
 go_wp2_with (fail)
 go_must (refine HE7.out.mono ?_)
 rintro e w8 ⟨rfl,hE⟩
 have HE:=Hdz hE
 clear hE
 go_wp2_with (fail)
 refine bodyPost_ret (v:=.tuple #[.int .i64 root',.int .i64 0]) (by simp [results,Tryz.results91,go_sem]) rfl ?_
 exact HE.out
end
end Go.Ev
