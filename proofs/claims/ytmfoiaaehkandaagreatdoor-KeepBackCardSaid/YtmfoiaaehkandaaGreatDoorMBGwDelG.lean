/-
  Texts of this claim.
-/
import Derived.Test.YtmfoiaaehkandaaGreatDoorMBGwEndG
set_option linter.unusedVariables false
set_option linter.unusedSimpArgs false
namespace Go.Ev
open Go.Proofs Go.RowKit
section
variable {p most cnt:Nat} {c:Pc} {x:Wc} {M:Store} {made dropped:List Int} {w:World}
set_option maxHeartbeats 8000000 in
set_option maxRecDepth 100000 in
theorem treeDelG_ok (root:Int) (key:Bytes) (ps:List Pair) (ids:List Int) (n:Nat) (h:PgOk w p c most M cnt) (ht:TreeH M root ps ids n) (hk1:1<=key.length) (hk2:key.length<=40) (hin:(getP key ps).isSome=true) (hn:n<=20000) (hil0:ids.length<=90000) (hroom:cnt+50<=most\/(ps.length<=1/\cnt+16<=most)) :
  Calls Tryz.prog 139 #[ptrV p,.int .i64 root,strV key] w (PutGP p c most M cnt ids (delP key ps) n w):=by
 obtain ⟨⟨k,S,hT,hH⟩,hnd,hsh⟩:=ht
 have hk8:=hH.high17 hn
 have hroom:cnt+2*k+16<=most:=by
  rcases hroom with h1 | ⟨h1,h2⟩
  ·omega
  ·have:=hT.low h1
   omega
 obtain ⟨P,lid,items,hway,hPl⟩:=hT.way key (by omega)
 have hPn:=hway.trail.once hT.tree hnd
 obtain ⟨hri,hli,ps',old,hps',hold,hia,hrd,hld,hlaw⟩:=del_lawG hT hH hway.trail
 rw [hin] at hia
 have hat:=hway.at
 have hil:items.length<=240:=by have:=layI_ge items;omega
 have hdl:(delI items key).length<=240:=by have:=layI_ge (delI items key);omega
 have hkey:=isKey_any key w (by omega)
 have e1:decide (1<=key.length)=true:=by simpa using hk1
 have e2:decide (key.length<=40)=true:=by simpa using hk2
 rw [e1,e2] at hkey
 have HKey:=Hdz hkey
 have HWay:=Hdz (way_ok root key P lid items w h hway)
 have HL:=Hdz (Anz hT (Anz hnd (Anz hsh (Anz hri (Anz hps' (Anz hold (Anz hia (Anz hrd (Anz hld (Anz hlaw (Anz hat (Anz h hPn))))))))))))
 clear hkey e1 e2 hT hnd hsh hri hli hps' hold hia hrd hld hlaw hat h hway hPn hH hin
 go_enter Tryz.func139,Tryz.ntmps139
 go_wp2_with (fail)
 go_must (refine HKey.out.mono ?_)
 rintro e w0 ⟨rfl,rfl⟩
 go_wp2_with (fail)
 go_must (refine HWay.out.mono ?_)
 rintro e w1 ⟨pv,st,vi,rfl,hstp,hgh,hsteps,hIt,hb1⟩
 obtain ⟨Ap,cp,rfl,_⟩:=Sl.of_own hstp
 unfold OwnsI at hIt
 obtain ⟨Ai,ci,rfl,_⟩:=Sl.of_own hIt
 obtain ⟨hT,hnd,hsh,hri,hps',hold,hia,hrd,hld,hlaw,hat,h,hPn⟩:=HL.out
 have hF:=findI_any Ai items.length ci items key w1 (Sl.of_own hIt) (by omega) hri
 rw [hia] at hF
 have HF:=Hdz hF
 have HS:=Hdz (Anz hstp (Anz hgh (Anz hsteps (Anz hIt hb1))))
 clear hstp hgh hsteps hIt hb1 hT hnd hsh hri hps' hold hia hrd hld hlaw hat h hPn hF
 go_wp2_with (fail)
 go_must (refine HF.out.mono ?_)
 rintro e w2 ⟨rfl,hb2⟩
 obtain ⟨hT,hnd,hsh,hri,hps',hold,hia,hrd,hld,hlaw,hat,h,hPn⟩:=HL.out
 obtain ⟨hstp,hgh,hsteps,hIt,hb1⟩:=HS.out
 have hz1:=hb1.size
 have hz2:=hb2.size
 have hz0:=h.lt
 -- the work
 obtain ⟨W2,hW2e⟩:∃ W2,W2=(w2.alloc (.cells #[.int .i64 lid] 3)).alloc (.cells #[ptrV p,.slice none 0 0,.slice (some ⟨w2.heap.size,0,none⟩) 1 1] 235):=⟨_,rfl⟩
 have hb22:Below w2.heap.size w2 W2:=by rw [hW2e];exact ((Below.refl _ w2).alloc (Nat.le_refl _) _).alloc (by simp) _
 have hzW:W2.heap.size=w2.heap.size+2:=by rw [hW2e];simp
 have hb02:Below w.heap.size w w2:=hb1.trans (hb2.mono hz1)
 have hpg2:=(h.below hb02).below hb22
 have hwk:WkOk W2 p ⟨c,w2.heap.size+1,.slice none 0 0,.slice (some ⟨w2.heap.size,0,none⟩) 1 1⟩ most M cnt [] [lid]:=by
  refine ⟨hpg2,?_,(λ e=>by have h5:=hz0 (w2.heap.size+1) e;omega),World.ownsRow_nil _ _ _ _,?_,(λ j hj=>by cases hj),(λ j hj e=>?_),(λ j hj=>by cases hj)⟩
  ·rw [hW2e];exact Blk.new' (by simp)
  ·rw [hW2e]
   exact own_below (own_base (own_of (heap_alloc_new w2 _) (Nat.le_refl _) (Nat.le_refl _) (by unfold maxLen;omega) rfl rfl (λ j hj=>by
    match j with
    | 0=>rfl
    | j+1=>omega)) (Nat.zero_le _)) ((Below.refl _ _).alloc (Nat.le_refl _) _)
  ·simp only [Value.ownBlock,Option.some.injEq] at hj
   have:=hz0 _ e
   omega
 have htrk:Trk c p w2.heap.size w2 W2 ⟨c,w2.heap.size+1,.slice none 0 0,.slice (some ⟨w2.heap.size,0,none⟩) 1 1⟩:=by
  refine ⟨Keeps.of_below hb22,?_,by omega,rfl,rfl,rfl⟩
  rintro j (e | e | e | e)
  ·exact .inl e
  ·simp only at e;exact .inr (by omega)
  ·cases e
  ·simp only [Value.ownBlock,Option.some.injEq] at e
   exact .inr (by omega)
 have hIt2:=own_below hIt hb2
 have hst2:=own_below hstp hb2
 have hkeep:∀ j,w.heap.size<=j->j<w2.heap.size->¬ (c.S p j\/w2.heap.size<=j):=λ j h1 h2 e=>by
  rcases e with e | e
  ·have:=hz0 j e;omega
  ·omega
 have hits:∀ (W:World) (x:Wc),Trk c p w2.heap.size w2 W x->Sl W 4 (.slice Ai items.length ci) items.length (itemsCs items):=λ W x ht =>
  Sl.of_own (own_keeps hIt2 ht.keeps λ j hj=>hkeep j (hIt2.lt j hj).1 (Nat.lt_of_lt_of_le (hIt.lt j hj).2 hz2))
 have HOld:=Hdz (old_any Ai items.length ci items key ps' old hwk (hits _ _ htrk) (by omega) hri hold (λ q hq=>hsh q (hps' q hq)) (by simp))
 have HIt:=Hdz hits
 have HTrk:=Hdz htrk
 have HW2e:=Hdz hW2e
 have HZ:=Hdz (Anz hz0 (Anz hb02 (Anz hst2 (Anz hkeep hb2))))
 have hzz1:w.heap.size<=w1.heap.size:=hz1
 clear hstp hgh hsteps hIt hb1 hb2 hT hnd hsh hri hps' hold hia hrd hld hlaw hat h hPn hwk htrk hits hpg2 hb22 hW2e hz0 hb02 hIt2 hst2 hkeep hz1
 go_wp2_with (fail)
 rw [<- HW2e.out]
 go_must (refine HOld.out.mono ?_)
 rintro e w3 ⟨rfl,x1,hw1,hk1'⟩
 have htrk:=HTrk.out.step hk1'
 have hx1b:=hk1'.same
 simp only at hx1b
 obtain ⟨hT,hnd,hsh,hri,hps',hold,hia,hrd,hld,hlaw,hat,h,hPn⟩:=HL.out
 have HDel:=Hdz (delI_any Ai items.length ci items key w3 (HIt.out _ _ htrk) (by omega) hri)
 have HTr:=Hdz htrk
 have HWk:=Hdz hw1
 have HX1:=Hdz hx1b
 clear hw1 hk1' htrk hT hnd hsh hri hps' hold hia hrd hld hlaw hat h hPn hx1b
 go_wp2_with (fail)
 go_must (refine HDel.out.mono ?_)
 rintro e w4 ⟨v4,rfl,hown4,hb4⟩
 obtain ⟨A4,c4,rfl,_⟩:=Sl.of_own hown4
 have htrk:=HTr.out.below hb4
 have hzs:=htrk.size
 have hz23:w2.heap.size<=w3.heap.size:=HTr.out.size
 have hshd:Short (delP key ps):=λ q hq=>HL.out.2.2.1 q (delP_mem hq)
 by_cases hrest:delI items key=[]
 ·have hlen0:(delI items key).length=0:=by rw [hrest];rfl
  rw [hlen0]
  obtain ⟨hT,hnd,hsh,hri,hps',hold,hia,hrd,hld,hlaw,hat,h,hPn⟩:=HL.out
  obtain ⟨hstp,hgh,hsteps,hIt,hb1⟩:=HS.out
  obtain ⟨hz0,hb02,hst2,hkeep,hb12⟩:=HZ.out
  obtain ⟨hFit,hkf,hfin⟩:=hlaw [] M [] (.inl ⟨hrest,rfl,rfl,rfl⟩)
  have hst6:=own_base (own_keeps hst2 htrk.keeps λ j hj=>hkeep j (hst2.lt j hj).1 (Nat.lt_of_lt_of_le (hstp.lt j hj).2 hz2)) (Nat.zero_le _)
  have hstk:StepsOk w4 0 st:=λ s hs=>⟨own_base (own_keeps (own_below (hsteps s hs).1 hb12) htrk.keeps λ j hj=>hkeep j ((hsteps s hs).1.lt j hj).1 (Nat.lt_of_lt_of_le ((hsteps s hs).1.lt j hj).2 hz2)) (Nat.zero_le _),(hsteps s hs).2⟩
  have hUp:=upend_ok (N1:=[]) (DD:=[lid]++old) (mm:=[]) (B:=none) (ck:=0) (kids:=[]) h hnd hT.tree.there hshd hk8 hFit hkf hfin hgh hPl hPn hat hst6 (λ j hj=>⟨(hstp.lt j hj).1,Nat.lt_of_lt_of_le (hstp.lt j hj).2 hz2⟩) hstk (λ s hs j hj=>⟨((hsteps s hs).1.lt j hj).1,Nat.lt_of_lt_of_le ((hsteps s hs).1.lt j hj).2 hz2⟩) hb02 htrk (HWk.out.below hb4) (World.ownsRow_nil _ _ _ _) (λ j hj=>by cases hj) (λ j hj=>by cases hj) (λ _=>rfl) (by simp) hroom (by simp) (by
   have:=old_len hold (λ q hq=>hsh q (hps' q hq))
   simp only [List.length_append,List.length_cons,List.length_nil]
   omega) hil0
  rw [HX1.out] at hUp
  simp only [List.length_nil] at hUp
  have HUp:=Hdz hUp
  clear hUp hFit hfin hkf htrk hT hnd hsh hshd hri hps' hold hia hrd hld hlaw hat h hPn hstp hgh hsteps hIt hb1 hz0 hb02 hst2 hkeep hb12 hst6 hstk hown4 hb4
  go_wp2_with (fail)
  go_must (refine HUp.out.mono ?_)
  rintro e w7 ⟨root',rfl,hE7⟩
  have HE7:=Hdz hE7
  clear hE7
  go_wp2_with (fail)
  go_must (refine HE7.out.mono ?_)
  rintro e w8 ⟨rfl,hE⟩
  have HE:=Hdz hE
  clear hE
  go_wp2_with (fail)
  refine bodyPost_ret (v:=.tuple #[.int .i64 root',.int .i64 0]) (by simp [results,Tryz.results139,go_sem]) rfl ?_
  exact HE.out
 ·have hpos:=List.length_pos_iff.2 hrest
  have hpos':(0:Int)<((delI items key).length:Int):=by omega
  obtain ⟨hT,hnd,hsh,hri,hps',hold,hia,hrd,hld,hlaw,hat,h,hPn⟩:=HL.out
  obtain ⟨hstp,hgh,hsteps,hIt,hb1⟩:=HS.out
  obtain ⟨hz0,hb02,hst2,hkeep,hb12⟩:=HZ.out
  have hfI:FitI (delI items key):=FitI.of hrd (by omega)
  have hLv:=leaves_any A4 (delI items key).length c4 (delI items key) (HWk.out.below hb4) (Sl.of_own hown4) hfI (by omega) (by omega) (by simp)
  rw [HX1.out] at hLv
  have HLv:=Hdz hLv
  have HA:=Hdz (Anz htrk hshd)
  clear hLv hfI htrk hT hnd hsh hshd hri hps' hold hia hrd hld hlaw hat h hPn hstp hgh hsteps hIt hb1 hz0 hb02 hst2 hkeep hb12 hown4 hb4
  go_wp2_with (fail)
  go_must (refine HLv.out.mono ?_)
  rintro e w6 ⟨kids,M1,new1,x3,kv,rfl,hLd,ownk,nsk,hw3,hk3'⟩
  obtain ⟨htrk,hshd⟩:=HA.out
  have htrk:=htrk.step hk3'
  have hx3b:=hk3'.same.trans HX1.out
  obtain ⟨hT,hnd,hsh,hri,hps',hold,hia,hrd,hld,hlaw,hat,h,hPn⟩:=HL.out
  obtain ⟨hstp,hgh,hsteps,hIt,hb1⟩:=HS.out
  obtain ⟨hz0,hb02,hst2,hkeep,hb12⟩:=HZ.out
  obtain ⟨hFit,hkf,hfin⟩:=hlaw kids M1 new1 (.inr ⟨hrest,hLd⟩)
  unfold OwnsC at ownk
  obtain ⟨Ak,ck,rfl,_⟩:=Sl.of_own ownk
  have hst6:=own_base (own_keeps hst2 htrk.keeps λ j hj=>hkeep j (hst2.lt j hj).1 (Nat.lt_of_lt_of_le (hstp.lt j hj).2 hz2)) (Nat.zero_le _)
  have hstk:StepsOk w6 0 st:=λ s hs=>⟨own_base (own_keeps (own_below (hsteps s hs).1 hb12) htrk.keeps λ j hj=>hkeep j ((hsteps s hs).1.lt j hj).1 (Nat.lt_of_lt_of_le ((hsteps s hs).1.lt j hj).2 hz2)) (Nat.zero_le _),(hsteps s hs).2⟩
  have hnew1:new1.length<=2:=by
   rcases hLd with ⟨_,_,_,_,_,_,_,rfl⟩ | ⟨_,_,_,_,_,_,_,_,_,_,_,_,_,_,_,rfl⟩<;>simp
  have hAk:Ak=none->ck=0:=by
   rcases ownk.2 with ⟨e,_⟩ | ⟨_,_,_,e,_⟩
   ·simp only [Value.slice.injEq] at e
    exact λ _=>e.2.2
   ·simp only [Value.slice.injEq] at e
    rw [e.1]
    exact λ h=>by cases h
  have hUp:=upend_ok (DD:=[lid]++old) h hnd hT.tree.there hshd hk8 hFit hkf hfin hgh hPl hPn hat hst6 (λ j hj=>⟨(hstp.lt j hj).1,Nat.lt_of_lt_of_le (hstp.lt j hj).2 hz2⟩) hstk (λ s hs j hj=>⟨((hsteps s hs).1.lt j hj).1,Nat.lt_of_lt_of_le ((hsteps s hs).1.lt j hj).2 hz2⟩) hb02 htrk hw3 (own_base ownk (Nat.zero_le _)) (λ j hj=>Nat.le_trans hzs (ownk.lt j hj).1) nsk hAk (by omega) hroom (by simp;omega) (by
   have:=old_len hold (λ q hq=>hsh q (hps' q hq))
   simp only [List.length_append,List.length_cons,List.length_nil]
   omega) hil0
  rw [hx3b] at hUp
  have HUp:=Hdz hUp
  clear hUp hFit hfin hkf htrk hT hnd hsh hshd hri hps' hold hia hrd hld hlaw hat h hPn hstp hgh hsteps hIt hb1 hz0 hb02 hst2 hkeep hb12 hst6 hstk ownk nsk hw3 hk3' hLd hnew1 hAk hx3b
  go_wp2_with (fail)
  go_must (refine HUp.out.mono ?_)
  rintro e w7 ⟨root',rfl,hE7⟩
  have HE7:=Hdz hE7
  clear hE7
  go_wp2_with (fail)
  go_must (refine HE7.out.mono ?_)
  rintro e w8 ⟨rfl,hE⟩
  have HE:=Hdz hE
  clear hE
  go_wp2_with (fail)
  refine bodyPost_ret (v:=.tuple #[.int .i64 root',.int .i64 0]) (by simp [results,Tryz.results139,go_sem]) rfl ?_
  exact HE.out
end
end Go.Ev
