/-
  Texts of this claim.
-/
import Derived.Test.YtmfoiaaehkandaaGreatDoorMBGwClipTo
import Derived.Test.YtmfoiaaehkandaaGreatDoorMBGwKeepSt
set_option linter.unusedVariables false
set_option linter.unusedSimpArgs false
set_option maxHeartbeats 4000000
set_option maxRecDepth 100000
namespace Go.Ev
open Go.Proofs Go.RowKit
def keptP (h s a:Bytes):List Pair:=[(appK,a),(hardK,h),(snapK,s)]
theorem insP_1 (h:Bytes):insP hardK h []=[(hardK,h)]:=by simp [insP]
theorem insP_2 (h s:Bytes):insP snapK s [(hardK,h)]=[(hardK,h),(snapK,s)]:=by simp [insP,hardK,snapK,lessB,Op.bytesLess]
theorem insP_3 (h s a:Bytes):insP appK a [(hardK,h),(snapK,s)]=keptP h s a:=by simp [insP,keptP,hardK,snapK,appK,lessB,Op.bytesLess]
theorem insP_app (h s a a':Bytes):insP appK a' (keptP h s a)=keptP h s a':=by simp [insP,keptP,hardK,snapK,appK,lessB,Op.bytesLess]
theorem insP_hard (h s a h':Bytes):insP hardK h' (keptP h s a)=keptP h' s a:=by simp [insP,keptP,hardK,snapK,appK,lessB,Op.bytesLess]
theorem insP_snap (h s a s':Bytes):insP snapK s' (keptP h s a)=keptP h s' a:=by simp [insP,keptP,hardK,snapK,appK,lessB,Op.bytesLess]
theorem getP_app (h s a:Bytes):getP appK (keptP h s a)=some a:=by simp [getP,keptP]
theorem getP_hard (h s a:Bytes):getP hardK (keptP h s a)=some h:=by simp [getP,keptP,hardK,appK]
theorem getP_snap (h s a:Bytes):getP snapK (keptP h s a)=some s:=by simp [getP,keptP,hardK,snapK,appK]
end Go.Ev
namespace Go.Ev
def logP (es:List LogE):List Pair:=es.map λ o=>(dig 8 o.idx.toNat,entB o)
def Follow:Nat->List LogE->Prop
 | _,[]=>True
 | b,o :: l=>o.idx=((b+1:Nat):Int)/\Follow (b+1) l
theorem logP_len (a:List LogE):(logP a).length=a.length:=by simp [logP]
theorem Follow.at:∀ {es:List LogE} {b:Nat},Follow b es->∀ k (h:k<es.length),es[k].idx=((b+1+k:Nat):Int)
 | o :: l,b,h,0,_=>h.1
 | o :: l,b,h,k+1,hk=>by
  have:=Follow.at h.2 k (by simpa using hk)
  simp only [List.getElem_cons_succ]
  rw [this]
  congr 1
  omega
theorem Follow.drop:∀ {es:List LogE} {b:Nat},Follow b es->∀ k,Follow (b+k) (es.drop k)
 | [],_,_,k=>by simp [Follow]
 | o :: l,b,h,0=>h
 | o :: l,b,h,k+1=>by
  have:=Follow.drop h.2 k
  rw [show b+(k+1)=b+1+k by omega]
  exact this
theorem Follow.take:∀ {es:List LogE} {b:Nat},Follow b es->∀ k,Follow b (es.take k)
 | [],_,_,k=>by simp [Follow]
 | o :: l,b,h,0=>trivial
 | o :: l,b,h,k+1=>⟨h.1,Follow.take h.2 k⟩
theorem Follow.left:∀ {es l:List LogE} {b:Nat},Follow b (es++l)->Follow b es
 | [],_,_,_=>trivial
 | o :: es,l,b,h=>⟨h.1,Follow.left (l:=l) h.2⟩
theorem Follow.right:∀ {es l:List LogE} {b:Nat},Follow b (es++l)->Follow (b+es.length) l
 | [],_,_,h=>h
 | o :: es,l,b,h=>by
  have:=Follow.right h.2
  rw [show b+(o :: es).length=b+1+es.length by simp;omega]
  exact this
theorem dig8_less {a b:Nat} (h:a<b) (hb:b<=99999999):lessB (dig 8 a) (dig 8 b)=true:=dig_less h (by omega)
theorem dig8_not {a b:Nat} (h:b<=a) (ha:a<=99999999):lessB (dig 8 a) (dig 8 b)=false:=by
 rcases Nat.lt_or_ge b a with h | h'
 ·exact lessB_asymm (dig8_less h ha)
 ·rw [show a=b by omega]
  exact lessB_irrefl _
theorem idx_toNat {o:LogE} {b:Nat} (h:o.idx=((b:Nat):Int)):o.idx.toNat=b:=by rw [h];rfl
theorem log_ahead:∀ {es:List LogE} {b:Nat} (k:Nat),Follow b es->k<=es.length->b+1+k<=99999999->aheadP (dig 8 (b+1+k)) (logP es)=k
 | [],b,k,_,hk,_=>by
  simp only [List.length_nil] at hk
  have:k=0:=by omega
  subst this
  rfl
 | o :: l,b,0,h,_,hb=>by
  simp only [logP,List.map_cons,aheadP]
  rw [idx_toNat h.1,dig8_not (by omega) (by omega)]
  rfl
 | o :: l,b,k+1,h,hk,hb=>by
  have ih:=log_ahead (es:=l) (b:=b+1) k h.2 (by simpa using hk) (by omega)
  simp only [logP,List.map_cons,aheadP] at ih ⊢
  rw [idx_toNat h.1,dig8_less (by omega) (by omega)]
  rw [show b+1+(k+1)=b+1+1+k by omega]
  simp only [if_true]
  rw [ih]
theorem log_from {es:List LogE} {b:Nat} (k:Nat) (h:Follow b es) (hk:k<=es.length) (hb:b+1+k<=99999999):rangeP (dig 8 (b+1+k)) [] 0 (logP es)=logP (es.drop k):=by
 rw [rangeP_rest,log_ahead k h hk hb,logP,logP,List.map_drop]
theorem dig8_nil (n:Nat):dig 8 n≠[]:=λ e=>by
 have:=congrArg List.length e
 rw [dig_len] at this
 exact absurd this (by decide)
theorem log_upto (es:List LogE):∀ (b k n:Nat),Follow b es->k<=es.length->b+1+k<=99999999->goR (dig 8 (b+1+k)) 0 n (logP es)=logP (es.take k):=by
 induction es with
 | nil =>
  intro b k n _ _ _
  simp [logP,goR]
 | cons o l ih =>
  intro b k n h hk hb
  obtain ⟨h1,h2⟩:=h
  have hi:o.idx.toNat=b+1:=idx_toNat h1
  obtain ⟨key,hkey⟩:=nmz (dig 8 (b+1+k))
  have e:goR (dig 8 (b+1+k)) 0 n (logP (o :: l))=if stopR key 0 n (dig 8 (b+1),entB o) then [] else (dig 8 (b+1),entB o) :: goR key 0 (n+1) (logP l):=by rw [<- hkey,<- hi];rfl
  rw [e]
  have hn:decide (key≠[])=true:=decide_eq_true (by rw [<- hkey];exact dig8_nil _)
  have hz:decide ((0:Int)<0)=false:=by decide
  cases k with
  | zero =>
   have h3:lessB (dig 8 (b+1)) key=false:=by rw [<- hkey];exact dig8_not (by omega) (by omega)
   have hs:stopR key 0 n (dig 8 (b+1),entB o)=true:=by
    unfold stopR
    rw [h3,hn]
    rfl
   rw [hs,if_pos rfl]
   rfl
  | succ k =>
   have h3:lessB (dig 8 (b+1)) key=true:=by rw [<- hkey];exact dig8_less (by omega) (by omega)
   have hs:stopR key 0 n (dig 8 (b+1),entB o)=false:=by
    unfold stopR
    rw [h3,hn,hz]
    rfl
   have ih2:=ih (b+1) k (n+1) h2 (by simpa using hk) (by omega)
   rw [show b+1+1+k=b+1+(k+1) by omega,hkey] at ih2
   rw [hs,if_neg (by simp),ih2,List.take_succ_cons,<- hi]
   rfl
theorem log_to {es:List LogE} {b:Nat} (k:Nat) (h:Follow b es) (hk:k<=es.length) (hb:b+1+k<=99999999):rangeP [] (dig 8 (b+1+k)) 0 (logP es)=logP (es.take k):=by
 unfold rangeP
 rw [aheadP_nil,List.drop_zero]
 exact log_upto es b k 0 h hk hb
theorem log_del:∀ {A:List LogE} {o:LogE} {B:List LogE},(∀ a∈A,dig 8 a.idx.toNat≠dig 8 o.idx.toNat)->delP (dig 8 o.idx.toNat) (logP (A++o :: B))=logP (A++B)
 | [],o,B,_=>by simp [logP,delP]
 | a :: A,o,B,h=>by
  have ih:=log_del (A:=A) (o:=o) (B:=B) λ x hx=>h x (List.mem_cons_of_mem _ hx)
  simp only [logP,List.map_append,List.map_cons,List.cons_append,delP] at ih ⊢
  rw [if_neg (h a (List.mem_cons_self ..)),ih]
theorem log_has:∀ {A:List LogE} {o:LogE} {B:List LogE},(∀ a∈A,dig 8 a.idx.toNat≠dig 8 o.idx.toNat)->getP (dig 8 o.idx.toNat) (logP (A++o :: B))=some (entB o)
 | [],o,B,_=>by simp [logP,getP]
 | a :: A,o,B,h=>by
  have ih:=log_has (A:=A) (o:=o) (B:=B) λ x hx=>h x (List.mem_cons_of_mem _ hx)
  simp only [logP,List.map_append,List.map_cons,List.cons_append,getP] at ih ⊢
  rw [if_neg (h a (List.mem_cons_self ..)),ih]
theorem Follow.ne {A M:List LogE} {b:Nat} (h:Follow b (A++M)) (hb:b+(A++M).length<=99999999):∀ a∈A,∀ o∈M,dig 8 a.idx.toNat≠dig 8 o.idx.toNat:=by
 intro a ha o ho
 obtain ⟨i,hi,rfl⟩:=List.getElem_of_mem ha
 obtain ⟨j,hj,rfl⟩:=List.getElem_of_mem ho
 rw [idx_toNat (h.left.at i hi),idx_toNat (h.right.at j hj)]
 simp only [List.length_append] at hb
 exact dig8_ne (by omega) (by omega) (by omega)
theorem log_ins:∀ {es:List LogE} {b:Nat} {o:LogE},Follow b (es++[o])->b+es.length+1<=99999999->insP (dig 8 o.idx.toNat) (entB o) (logP es)=logP (es++[o])
 | [],b,o,_,_=>by simp [logP,insP]
 | a :: es,b,o,h,hb=>by
  have ih:=log_ins (es:=es) (b:=b+1) (o:=o) h.2 (by simp only [List.length_cons] at hb;omega)
  have ho:=(Follow.right (es:=a :: es) h).1
  simp only [logP,List.map_append,List.map_cons,List.cons_append,insP,List.map_nil] at ih ⊢
  rw [idx_toNat h.1,idx_toNat ho] at *
  rw [dig8_less (by simp only [List.length_cons];omega) (by simp only [List.length_cons] at hb ⊢;omega),if_pos rfl,ih]
theorem del_less (key:Bytes):∀ ps:List Pair,sumV (delP key ps)<=sumV ps/\(delP key ps).length<=ps.length
 | []=>⟨Nat.le_refl _,Nat.le_refl _⟩
 | q :: l=>by
  obtain ⟨h1,h2⟩:=del_less key l
  simp only [delP]
  split
  ·simp only [sumV,List.length_cons]
   omega
  ·simp only [sumV,List.length_cons]
   omega
theorem ndN_delK (k:Nat) (key:Bytes) (ps:List Pair):ndN k (delP key ps)<=ndN k ps:=by
 obtain ⟨h1,h2⟩:=del_less key ps
 unfold ndN
 omega
def ShortE (es:List LogE):Prop:=es.length<=70/\∀ o∈es,(entB o).length<=1100
theorem sumV_log:∀ {es:List LogE},(∀ o∈es,(entB o).length<=1100)->sumV (logP es)<=1108*es.length
 | [],_=>by simp [logP,sumV]
 | o :: l,h=>by
  have ih:=sumV_log (es:=l) λ x hx=>h x (List.mem_cons_of_mem _ hx)
  have:=h o (List.mem_cons_self ..)
  simp only [logP,List.map_cons,sumV,List.length_cons] at ih ⊢
  have:=dig_len 8 o.idx.toNat
  omega
theorem log_room {es:List LogE} {n:Nat} (h:ShortE es) (hn:n<=140):ndN n (logP es)<=300000:=by
 have h1:=sumV_log h.2
 have h2:=h.1
 have h3:9776*n / 2924<=468:=by omega
 unfold ndN
 rw [logP_len]
 omega
theorem ShortE.sub {es l:List LogE} (h:ShortE es) (hs:l.length<=es.length) (hl:∀ o∈l,o∈es):ShortE l:=⟨Nat.le_trans hs h.1,λ o ho=>h.2 o (hl o ho)⟩
open Go.Proofs Go.RowKit
theorem setCell_id {w:World} {a:Addr} {v:Value} (h:w.cell? a=some v):w.setCell a v=w:=by
 unfold World.cell? at h
 split at h
 ·rename_i c e f hc
  split at h
  ·cases h
  ·rename_i hs
   have h2:w.heap.modify a.block (fun | .cells c elem frozen=>.cells (if a.spot.isSome then c else c.setIfInBounds a.off v) elem frozen | o=>o)=w.heap:=by
    apply Array.ext_getElem?
    intro i
    rw [Array.getElem?_modify]
    split
    ·rename_i hi
     subst hi
     rw [hc]
     simp only [Option.map_some,hs,if_false]
     congr 2
     apply Array.ext_getElem?
     intro j
     rw [Array.getElem?_setIfInBounds]
     split
     ·rename_i hj
      subst hj
      obtain ⟨h3,h4⟩:=Array.getElem?_eq_some_iff.1 h
      rw [if_pos h3,h]
     ·rfl
    ·rfl
   exact congrArg (λ h=>{ w with heap:=h }) h2
 ·cases h
theorem entCs_len (o:LogE):(entCs o).length=4:=rfl
theorem entCs_one (es:List LogE):∀ u∈es.flatMap entCs,u.oneCell'=true:=by
 intro u hu
 obtain ⟨o,_,h⟩:=List.mem_flatMap.1 hu
 simp only [entCs,List.mem_cons,List.not_mem_nil,or_false] at h
 rcases h with rfl | rfl | rfl | rfl<;>rfl
theorem cloneE_any (A:Addr) (n c:Nat) (l:List LogE) (w:World) (hv:Sl w 4 (.slice (some A) n c) n (l.flatMap entCs)) (hn:n<=100000) :
  Calls Tryz.prog 155 #[.slice (some A) n c] w λ e w' =>
   ∃ v',e=.returned v'/\w'.ownsRow w.heap.size 62 4 v' n (l.flatMap entCs)/\Below w.heap.size w w':=by
 obtain ⟨i0,hi,hz0,hz1,hz2⟩:=info_parts (show (Tryz.prog.info? 62).map (λ i=>(i.zero,i.size,i.bytes))=some (some (.agg #[.int .i64 0,.int .i64 0,.int .i64 0,strV []]),4,40) by kernel_rfl)
 have q22:∀ (w:World) (a:Option Addr) (n c n' c':Nat),(binOp .eql 24 (.slice a n c) (.slice none n' c')).run Tryz.prog w=.ok (.bool a.isNone) w:=λ w a n c n' c'=>Lib.run_eql_slice_nil w _ 62 a n c n' c' Tryz.underlying24
 go_enter Tryz.func155,Tryz.ntmps155
 go_wp2_with (at_builtin;go_must (refine wpList_append_own _ rfl _ _ 24 rfl w.heap.size 62 i0 _ 4 40 Tryz.underlying24 hi hz0 hz1 hz2 rfl (by decide) _ _ _ rfl (World.ownsRow_made w #[] 0 (Nat.le_refl _) (Nat.zero_le _) rfl) A n c (l.flatMap entCs) rfl ?c0 ?c1 ?c2 ?c3 ?c4 ?c5 ?_))
 case c0 =>
  obtain ⟨_,_,e0,h0,h1,h2⟩:=hv
  simpa using h1
 case c1 =>
  obtain ⟨_,_,e0,h0,h1,h2⟩:=hv
  intro j u hu
  have hj:=(List.getElem?_eq_some_iff.1 hu).1
  obtain ⟨b,o,eA,h4,h5⟩:=h2 (by omega)
  simp only [Value.slice.injEq] at e0
  rw [<- e0.1] at eA
  cases eA
  rw [Addr.add_lit]
  exact Lib.cell?_alloc_some _ (h5 j u hu)
 case c2=>exact entCs_one l
 case c3=>unfold maxLen;omega
 case c4=>omega
 case c5=>simp
 intro v' w1 hown hgrow hnil
 go_wp2
 go_ret
 exact ⟨v',rfl,by simpa using hown,((Below.refl _ w).alloc (Nat.le_refl _) _).grown hgrow (by simp) (by intro k hk;simp [Value.ownBlock] at hk;omega)⟩
theorem cloneE_nil (c:Nat) (w:World) :
  Calls Tryz.prog 155 #[.slice none 0 c] w λ e w'=>e=.returned (.slice none 0 0)/\w=w':=by
 have q22:∀ (w:World) (a:Option Addr) (n c n' c':Nat),(binOp .eql 24 (.slice a n c) (.slice none n' c')).run Tryz.prog w=.ok (.bool a.isNone) w:=λ w a n c n' c'=>Lib.run_eql_slice_nil w _ 62 a n c n' c' Tryz.underlying24
 go_enter Tryz.func155,Tryz.ntmps155
 go_wp2_with (fail)
 go_ret
 exact ⟨rfl,rfl⟩
theorem cloneE_all (A:Option Addr) (n c:Nat) (l:List LogE) (w:World) (hv:Sl w 4 (.slice A n c) n (l.flatMap entCs)) (hl:l.length=n) (hA:A=none->n=0) (hn:n<=100000) :
  Calls Tryz.prog 155 #[.slice A n c] w λ e w' =>
   ∃ v',e=.returned v'/\w'.ownsRow w.heap.size 62 4 v' n (l.flatMap entCs)/\Below w.heap.size w w':=by
 cases A with
 | none =>
  have:=hA rfl
  subst this
  have:l=[]:=List.eq_nil_of_length_eq_zero hl
  subst this
  refine (cloneE_nil c w).mono ?_
  rintro e w' ⟨rfl,rfl⟩
  exact ⟨_,rfl,World.ownsRow_nil _ _ _ _,Below.refl _ _⟩
 | some A=>exact cloneE_any A n c l w hv hn
theorem own_ok (A:Option Addr) (n c:Nat) (l:List LogE) (w:World) (hv:Sl w 4 (.slice A n c) n (l.flatMap entCs)) (hl:l.length=n) (hA:A=none->n=0) (hn:n<=100000) (hd:∀ o∈l,o.data.length<=100000) :
  Calls Tryz.prog 103 #[.slice A n c] w λ e w'=>(∃ A1 c1,e=.returned (.slice A1 n c1))/\Below w.heap.size w w':=by
 have HC:=Hdz (cloneE_all A n c l w hv hl hA hn)
 have HL:=Hdz hl
 have HD:=Hdz hd
 clear hv hl hA hd
 go_enter Tryz.func103,Tryz.ntmps103
 go_wp2_with (fail)
 go_must (refine HC.out.mono ?_)
 rintro e w1 ⟨v,rfl,ho,hb1⟩
 obtain ⟨A1,c1,rfl,-⟩:=Sl.of_own ho
 have HO:=Hdz ho
 have HB1:=Hdz hb1
 clear ho hb1
 go_wp2_with (fail)
 go_loopg [9] n (λ gk s9 wr=>∃ i:Nat,s9=.int .i64 (i:Int)/\i+gk=n/\Hid (wr.ownsRow w.heap.size 62 4 (.slice A1 n c1) n (l.flatMap entCs))/\Hid (Below w.heap.size w wr))
 case atStart=>exact ⟨0,rfl,by omega,HO.out,HB1.out⟩
 case round =>
  clear HO HB1
  obtain ⟨i,rfl,hi,hO,hB⟩:=hrel
  obtain ⟨wo,rfl⟩:∃ wo,wo=wr:=⟨_,rfl⟩
  by_cases hin:i<n
  ·have h1:(i:Int)<(n:Int):=by omega
   have h0:(0:Int)<=(i:Int):=by omega
   have hiL:i<l.length:=by have:=HL.out;omega
   obtain ⟨_,_,e0,_,_,hcl⟩:=Sl.of_own hO.out
   cases e0
   obtain ⟨blk,off,rfl,hbl,hcell⟩:=hcl (by omega)
   obtain ⟨o,ho⟩:=nmz (l[i])
   have hx:∀ r u,(entCs o)[r]? = some u->wo.cell? ⟨blk,off+(i*4+r),none⟩=some u:=λ r u hu=>by
    rw [<- ho] at hu
    have hr:r<4:=by have:=(List.getElem?_eq_some_iff.1 hu).1;simpa [entCs_len] using this
    exact hcell _ _ (by rw [flat_at entCs_len l i r hiL hr];exact hu)
   have x3:wo.cell? ⟨blk,off+i*4+3,none⟩=some (strV o.data):=hx 3 _ rfl
   have hdl:o.data.length<=100000:=by rw [<- ho];exact HD.out _ (List.getElem_mem hiL)
   have HCl:=Hdz (clone_any ⟨o.data.toArray⟩ wo (by show o.data.length<=_;omega))
   have hw:IntKind.i64.wrap ((i:Int)+1)=(i:Int)+1:=IntWalk.i64_in _ (by omega)
   clear hx hcell hcl ho hiL hdl
   go_wp2_with (fail)
   go_must (refine HCl.out.mono ?_)
   rintro e w2 ⟨rfl,hb2⟩
   have hO2:=own_below hO.out hb2
   have x4:w2.cell? ⟨blk,off+i*4+3,none⟩=some (strV o.data):=(hb2.cell (p:=⟨blk,off+i*4+3,none⟩) hbl).trans x3
   have zf:w2.frozen? ⟨blk,off+i*4+3,none⟩=false:=by
    obtain ⟨_,⟨e,_⟩ | ⟨g,cap,cur,e,hgb,hh,_⟩⟩:=hO2
    ·cases e
    ·cases e
     simp [World.frozen?,hh]
   have HO2:=Hdz hO2
   have HB2:=Hdz (hB.out.trans (hb2.mono hB.out.size))
   have HId:=Hdz (setCell_id x4)
   clear hO2 hb2
   go_wp2_with (fail)
   go_roundg (gk-1)
   case measure=>omega
   case rel=>exact ⟨i+1,by simp,by omega,(by show World.ownsRow _ _ _ _ _ _ _;rw [HId.out];exact HO2.out),(by show Below _ _ _;rw [HId.out];exact HB2.out)⟩
  ·have h1:¬ (i:Int)<(n:Int):=by omega
   go_wp2_with (fail)
   go_ret
   exact ⟨⟨_,_,rfl⟩,hB.out⟩
def FollowT:Int->Int->List LogE->Prop
 | _,_,[]=>True
 | i,u,o :: l=>o.idx=i+1/\u<=o.term/\FollowT o.idx o.term l
theorem follow_ok (i0 u0:Int) (A:Option Addr) (n c:Nat) (l:List LogE) (w:World) (hv:Sl w 4 (.slice A n c) n (l.flatMap entCs)) (hl:l.length=n) (hn:n<=100000) (hi0:0<=i0) (hbd:∀ o∈l,o.idx<=99999999) (hf:FollowT i0 u0 l) :
  Calls Tryz.prog 102 #[.int .i64 i0,.int .i64 u0,.slice A n c] w λ e w'=>e=.returned (.bool true)/\Below w.heap.size w w':=by
 have HV:=Hdz hv
 have HL:=Hdz hl
 have HF:=Hdz (Anz hi0 hf)
 have HBd:=Hdz hbd
 clear hv hl hf hi0 hbd
 go_enter Tryz.func102,Tryz.ntmps102
 go_wp2_with (fail)
 go_loopg [0,1,11] n (λ gk s0 s1 s11 wr=>∃ (k:Nat) (a b:Int),s0=.int .i64 a/\s1=.int .i64 b/\s11=.int .i64 (k:Int)/\k+gk=n/\Hid (0<=a/\FollowT a b (l.drop k))/\Hid (Below w.heap.size w wr))
 case atStart=>exact ⟨0,i0,u0,rfl,rfl,rfl,by omega,HF.out,Below.refl _ _⟩
 case round =>
  obtain ⟨k,a,b,rfl,rfl,rfl,hk,hf,hB⟩:=hrel
  obtain ⟨wo,rfl⟩:∃ wo,wo=wr:=⟨_,rfl⟩
  by_cases hin:k<n
  ·have h1:(k:Int)<(n:Int):=by omega
   have h0:(0:Int)<=(k:Int):=by omega
   have hiL:k<l.length:=by have:=HL.out;omega
   obtain ⟨_,_,e0,_,_,hcl⟩:=HV.out.below hB.out
   cases e0
   obtain ⟨blk,off,rfl,hbl,hcell⟩:=hcl (by omega)
   have hfd:=hf.out
   rw [List.drop_eq_getElem_cons hiL] at hfd
   obtain ⟨o,ho⟩:=nmz (l[k])
   rw [ho] at hfd
   obtain ⟨ha0,hf1,hf2,hf3⟩:=hfd
   have hbo:o.idx<=99999999:=by rw [<- ho];exact HBd.out _ (List.getElem_mem hiL)
   have hx:∀ r u,(entCs o)[r]? = some u->wo.cell? ⟨blk,off+(k*4+r),none⟩=some u:=λ r u hu=>by
    rw [<- ho] at hu
    have hr:r<4:=by have:=(List.getElem?_eq_some_iff.1 hu).1;simpa [entCs_len] using this
    exact hcell _ _ (by rw [flat_at entCs_len l k r hiL hr];exact hu)
   have x0:wo.cell? ⟨blk,off+k*4,none⟩=some (.int .i64 o.idx):=hx 0 _ rfl
   have x1:wo.cell? ⟨blk,off+k*4+1,none⟩=some (.int .i64 o.term):=hx 1 _ rfl
   have x2:wo.cell? ⟨blk,off+k*4+2,none⟩=some (.int .i64 o.kind):=hx 2 _ rfl
   have x3:wo.cell? ⟨blk,off+k*4+3,none⟩=some (strV o.data):=hx 3 _ rfl
   obtain ⟨j,hj⟩:=nmz (o.idx)
   obtain ⟨t,ht⟩:∃ j,o.term=j:=⟨_,rfl⟩
   rw [hj] at x0 hf1 hf3 hbo
   rw [ht] at x1 hf2 hf3
   have hwa:IntKind.i64.wrap (a+1)=j:=by rw [IntWalk.i64_in _ (by omega)];omega
   have hne:(j != j)=false:=by simp
   have hlt:¬ t<b:=by omega
   have hw:IntKind.i64.wrap ((k:Int)+1)=(k:Int)+1:=IntWalk.i64_in _ (by omega)
   have bz:Blk (wo.alloc (.cells #[.int .i64 j,.int .i64 t,.int .i64 o.kind,strV o.data] 62)) wo.heap.size 62 #[.int .i64 j,.int .i64 t,.int .i64 o.kind,strV o.data]:=Blk.new _ _ _
   have y0:=bz.cell 0
   have y1:=bz.cell 1
   have HB2:Hid (Below w.heap.size w (wo.alloc (.cells #[.int .i64 j,.int .i64 t,.int .i64 o.kind,strV o.data] 62))):=hB.out.alloc hB.out.size _
   have HN:Hid (0<=j/\FollowT j t (l.drop (k+1))):=⟨by omega,hf3⟩
   clear hx hcell hcl hbl ho hj ht hf3 ha0 bz hf1 hbo
   go_wp2_with (fail)
   refine wRz ?_
   try simp only [lAz]
   refine tA 0 ?_;try simp only [lAz]
   refine tA 2 ?_;try simp only [lAz]
   refine rA 1 (v:=?_) (hy:=?hy) ?_;case hy=>(intro w hE;have q0:=hE.cell y0;go_simp;try with_reducible rfl)
   try simp only [lAz]
   refine rA 3 (v:=?_) (hy:=?hy) ?_;case hy=>(intro w hE;have q0:=hE.cell y1;go_simp;try with_reducible rfl)
   try simp only [lAz]
   refine rZz 4 λ K hK=>?_;go_simp;apply hK;clear hK K
   refine rZz 5 λ K hK=>?_;go_simp;apply hK;clear hK K
   refine wDz ?_
   go_wp2_with (fail)
   go_roundg (gk-1)
   case measure=>omega
   case rel=>exact ⟨k+1,j,t,rfl,rfl,by simp,by omega,HN.out,HB2.out.drew⟩
  ·have h1:¬ (k:Int)<(n:Int):=by omega
   go_wp2_with (fail)
   go_ret
   exact ⟨rfl,hB.out⟩
theorem rlogNew_ok (i0 u0:Int) (A:Option Addr) (n c:Nat) (l:List LogE) (w:World) (hv:Sl w 4 (.slice A n c) n (l.flatMap entCs)) (hl:l.length=n) (hA:A=none->n=0) (hn:n<=100000) (hi0:0<=i0) (hu0:0<=u0) (hbd:∀ o∈l,o.idx<=99999999) (hd:∀ o∈l,o.data.length<=100000) (hf:FollowT i0 u0 l) :
  Calls Tryz.prog 61 #[.int .i64 i0,.int .i64 u0,.slice A n c] w λ e w'=>(∃ u,e=.returned (.tuple #[u,.int .i64 0]))/\Below w.heap.size w w':=by
 have HF:=Hdz (follow_ok i0 u0 A n c l w hv hl hn hi0 hbd hf)
 have HO:=Hdz λ W (hb:Below w.heap.size w W)=>own_ok A n c l W (hv.below hb) hl hA hn hd
 have d1:¬ i0<0:=by omega
 have d2:¬ u0<0:=by omega
 clear hv hl hA hbd hd hf hi0 hu0
 go_enter Tryz.func61,Tryz.ntmps61
 go_wp2_with (fail)
 go_must (refine HF.out.mono ?_)
 rintro e w1 ⟨rfl,hb1⟩
 have HB1:=Hdz hb1
 clear hb1
 go_wp2_with (fail)
 go_must (refine (HO.out _ HB1.out).mono ?_)
 rintro e w2 ⟨⟨A2,c2,rfl⟩,hb2⟩
 have HB2:=Hdz (HB1.out.trans (hb2.mono HB1.out.size))
 clear hb2
 go_wp2_with (fail)
 go_ret2
 exact ⟨⟨_,rfl⟩,HB2.out.alloc HB2.out.size _⟩
section
variable {F F':Nat->Prop} {bb q:Nat} {H:List Pair} {E:DB} {W W':World}
theorem Kn.rangeL (h:Kn F bb q H E W) (hq:q<=20000) (hl:E.2.length<=100000) (lo hi:Bytes) (mx:Int) :
  Calls Tryz.prog 26 #[ptrV bb,strV logK,strV lo,strV hi,.int .i64 mx] W (RangePost W.heap.size (rangeP lo hi mx E.2) W):=by
 obtain ⟨p,rn,th,tl,h1,h2,h3,h4,h5,h6,h7⟩:=h.ex
 obtain ⟨S,root,g1,g2⟩:=h1.ex
 have:=rangeB_ok logK lo hi mx ⟨logK,tl⟩ g1 (getB_log th tl) (by omega) (by show tl.n<=_;omega) (by show tl.ps.length<=_;rw [h3];exact hl) (by decide) (by decide)
 simp only [h3] at this
 exact this
theorem Kn.gap (h:Kn F bb q H E W) (hb:Below W.heap.size W W'):Kn (λ k=>F k/\¬ (W.heap.size<=k/\k<W'.heap.size)) bb q H E W':=
 h.fence (G:=λ _=>False) (Keeps.of_below hb) (λ _ _ _ e=>e) (λ k hk e=>⟨e,λ hh=>by omega⟩) λ k hk=>⟨h.size k (Nat.le_trans hb.size hk),λ hh=>by omega⟩
theorem Kn.less (h:Kn F bb q H E W) (hF:∀ k,F k->F' k):Kn F' bb q H E W:=
 h.fence (G:=λ _=>False) (Keeps.refl _ _) (λ _ _ _ e=>e) (λ k _ e=>hF k e) λ k hk=>hF k (h.size k hk)
theorem logP_at {M:List LogE} {i:Nat} (h:i<M.length) (h':i<(logP M).length):(logP M)[i]=(dig 8 M[i].idx.toNat,entB M[i]):=by simp [logP]
def LogDone (F:Nat->Prop) (bb q:Nat) (H:List Pair) (E:DB) (W:World) (e:Ending) (w':World):Prop:=e=.returned (.int .i64 0)/\Kn F bb q H E w'/\Keeps F W w'
theorem Kn.deleteLog {A M B:List LogE} {n:Nat} (h:Kn F bb q H (n,logP (A++M++B)) W) (hq:q<=18000) (hlen:(A++M++B).length<=900) (lo hi:Bytes) (hr:rangeP lo hi 0 (logP (A++M++B))=logP M) (hne:∀ a∈A,∀ o∈M,dig 8 a.idx.toNat≠dig 8 o.idx.toNat) :
  Calls Tryz.prog 47 #[ptrV bb,strV lo,strV hi] W (LogDone F bb (q+M.length) H (n,logP (A++B)) W):=by
 have hR:=h.rangeL (by omega) (by rw [logP_len];omega) lo hi 0
 rw [show ((n,logP (A++M++B)):DB).2=logP (A++M++B) from rfl,hr] at hR
 have hml:M.length<=900:=by simp only [List.length_append] at hlen;omega
 have HNe:=Hdz hne
 have HR:=Hdz hR
 have HK:=Hdz h
 obtain ⟨m,hm⟩:=nmz (M.length)
 have HM:=Hdz hm
 rw [hm] at hml ⊢
 clear hR hr hne h hm hlen
 go_enter Tryz.func47,Tryz.ntmps47
 go_wp2_with (fail)
 go_must (refine HR.out.mono ?_)
 rintro e w1 ⟨v,rfl,hcl,hb1⟩
 have hT:=hcl.to
 obtain ⟨A0,e0,-,-⟩:=hT.sl
 rw [logP_len,HM.out] at e0
 subst e0
 have HT:=Hdz hT
 have HK1:=Hdz (HK.out.gap hb1)
 have HB1:=Hdz hb1
 clear hT hcl hb1
 go_wp2_with (fail)
 go_loopg [24] m (λ gk s24 wr=>∃ i:Nat,s24=.int .i64 (i:Int)/\i+gk=m/\Hid (Kn (λ k=>F k/\¬ (W.heap.size<=k/\k<w1.heap.size)) bb (q+i) H (n,logP (A++M.drop i++B)) wr)/\Hid (ClipTo wr W.heap.size w1.heap.size (.slice A0 m m) (logP M))/\Hid (Keeps F W wr/\w1.heap.size<=wr.heap.size))
 case atStart=>exact ⟨0,rfl,by omega,HK1.out,HT.out,Keeps.of_below HB1.out,Nat.le_refl _⟩
 case round =>
  clear HT HK1
  obtain ⟨i,rfl,hi,hK,hT,hW⟩:=hrel
  obtain ⟨wo,rfl⟩:∃ wo,wo=wr:=⟨_,rfl⟩
  by_cases hin:i<m
  ·have h1:(i:Int)<(m:Int):=by omega
   have h0:(0:Int)<=(i:Int):=by omega
   have hiM:i<M.length:=by have:=HM.out;omega
   have hiL:i<(logP M).length:=by rw [logP_len];exact hiM
   obtain ⟨A1,e1,-,hsl⟩:=hT.out.sl
   cases e1
   obtain ⟨_,_,e2,_,_,hcl⟩:=hsl
   cases e2
   obtain ⟨blk,off,rfl,hbl,hcell⟩:=hcl (by rw [logP_len];omega)
   obtain ⟨p1,p2⟩:=pairsCs_at (logP M) i hiL
   rw [logP_at hiM hiL] at p1 p2
   obtain ⟨key,hkey⟩:∃ k,dig 8 M[i].idx.toNat=k:=⟨_,rfl⟩
   obtain ⟨val,hval⟩:∃ k,entB M[i]=k:=⟨_,rfl⟩
   rw [hkey] at p1
   rw [hval] at p2
   have c0:wo.cell? ⟨blk,off+i*2,none⟩=some (strV key):=hcell _ _ p1
   have c1:wo.cell? ⟨blk,off+i*2+1,none⟩=some (strV val):=hcell _ _ p2
   have hk8:key.length=8:=by rw [<- hkey];exact dig_len _ _
   have hb2:Below wo.heap.size wo (wo.alloc (.cells #[strV key,strV val] 139)):=(Below.refl _ _).alloc (Nat.le_refl _) _
   have hK2:=hK.out.below hb2
   have hdr:M.drop i=M[i] :: M.drop (i+1):=List.drop_eq_getElem_cons hiM
   have hgt:getP key (logP (A++M.drop i++B))=some (entB M[i]):=by
    rw [hdr,<- hkey,List.append_assoc,List.cons_append]
    exact log_has λ a ha=>HNe.out a ha _ (List.getElem_mem hiM)
   have hdl:delP key (logP (A++M.drop i++B))=logP (A++M.drop (i+1)++B):=by
    rw [hdr,<- hkey,List.append_assoc,List.cons_append,log_del λ a ha=>HNe.out a ha _ (List.getElem_mem hiM),List.append_assoc]
   have hD:=hK2.delL (by omega) key (by omega) (by omega) (by show (getP key (logP (A++M.drop i++B))).isSome=true;rw [hgt];rfl) (Nat.le_trans (ndN_delK _ _ _) hK.out.room)
   rw [show delP key ((n,logP (A++M.drop i++B)):DB).2=logP (A++M.drop (i+1)++B) from hdl] at hD
   have HD:=Hdz hD
   have HBa:=Hdz hb2
   have hw:IntKind.i64.wrap ((i:Int)+1)=(i:Int)+1:=IntWalk.i64_in _ (by omega)
   clear hD hdl hgt hdr hK2 hb2 hk8 hkey hval p1 p2 hcell hcl hbl hiL hiM
   go_wp2_with (fail)
   go_must (refine HD.out.mono ?_)
   rintro e w2 ⟨rfl,hk2,hkk⟩
   have HN:Hid (Kn (λ k=>F k/\¬ (W.heap.size<=k/\k<w1.heap.size)) bb (q+(i+1)) H (n,logP (A++M.drop (i+1)++B)) w2):=hk2
   have hT2:=(hT.out.below HBa.out).far hkk λ k g1 g2 e=>e.2 ⟨g1,g2⟩
   have HT2:=Hdz hT2
   have HW2:Hid (Keeps F W w2/\w1.heap.size<=w2.heap.size):=⟨(hW.out.1.then HBa.out).go (hkk.mono λ k _ e=>e.1),by have:=hW.out.2;have:=HBa.out.size;have:=hkk.size;omega⟩
   clear hk2 hkk hT2
   go_wp2_with (fail)
   go_roundg (gk-1)
   case measure=>omega
   case rel=>exact ⟨i+1,by simp,by omega,HN.out,HT2.out,HW2.out⟩
  ·have h1:¬ (i:Int)<(m:Int):=by omega
   have he:i=m:=by omega
   subst he
   have hd:M.drop i=[]:=List.drop_of_length_le (by have:=HM.out;omega)
   have HN:Hid (Kn F bb (q+i) H (n,logP (A++B)) wo):=by
    have:=hK.out
    rw [hd,List.append_nil] at this
    exact this.less λ k e=>e.1
   clear hd
   go_wp2_with (fail)
   go_ret
   exact ⟨rfl,HN.out,hW.out.1⟩
end
end Go.Ev
