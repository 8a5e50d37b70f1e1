/-
  Texts of this claim.
-/
import Derived.Test.YtmfoiaaehkandaaGreatDoorMBGwCurs4
import Derived.Test.YtmfoiaaehkandaaGreatDoorMBGwShrink
set_option linter.unusedVariables false
set_option linter.unusedSimpArgs false
set_option maxHeartbeats 20000000
set_option maxRecDepth 100000
namespace Go.Ev
open Go.Proofs Go.RowKit Go.Shelf
attribute [local go_sem] Oper.semAt_some
theorem backS1_in (F:Fence) (n:Nat) (hf:F.fn 265) (hro:F.round=none) (hn:1<=n) (l Bs b off cap:Nat) (st:List Bytes) (hreach:st.length<=100000) (J:Nat->World->Prop)
  (hY:∀ (k:Nat) (x:Fin st.length) W,(backs st.length)[k]? = some x->J k W->YieldAt F (n-1) Tryz.prog l #[.int .i64 (x.1:Int),strV st[x.1]] W λ e W'=>e=.returned (.bool true)/\J (k+1) W'/\KB Bs b W W')
  (W:World) (hBs:W.cell? ⟨Bs,0,none⟩=some (.slice (some ⟨b,off,none⟩) st.length cap)) (hc:∀ j u,(strsV st)[j]? = some u->W.cell? ⟨b,off+j,none⟩=some u) (h0:J 0 W) :
  CallsIn F n Tryz.prog 265 #[.func (.yield l) #[] #[],.pointer (some ⟨Bs,0,none⟩)] W λ e W'=>(∃ v,e=.returned v)/\J st.length W':=by
 refine callsIn_of_wp Tryz.func265 rfl hf ?_ hro
 simp only [Tryz.ntmps265,List.size_toArray,List.length_cons,List.length_nil,Nat.reduceAdd,Nat.reduceSub,Array.replicate_succ,Array.replicate_zero,List.push_toArray,List.append_toArray,List.nil_append,List.cons_append]
 gi_wp2
 gi_loopw [3] (λ i wr=>∃ k:Nat,k<=st.length/\i=.int .i64 ((st.length:Int)-1-k)/\J k wr/\KB Bs b W wr)
  (λ i _=>(Go.RowKit.intOf i+1).toNat)
 case atStart=>exact ⟨0,Nat.zero_le _,by simp,h0,KB.refl _ _ _⟩
 case round =>
  obtain ⟨k,hk,rfl,hJs,hnx⟩:=hrel
  have hBx:wr.cell? ⟨Bs,0,none⟩=some (.slice (some ⟨b,off,none⟩) st.length cap):=(World.cell?_of_block hnx.1).trans hBs
  by_cases hlt:k<st.length
  ·obtain ⟨m,hm⟩:∃ m,m=st.length-1-k:=⟨_,rfl⟩
   have hmI:(st.length:Int)-1-(k:Int)=(m:Int):=by omega
   have hml:m<st.length:=by omega
   obtain ⟨fn,tmps,assign,body,hy,hR⟩:=hY k ⟨m,hml⟩ wr (by rw [backs_at _ _ hlt];congr;exact hm.symm) hJs
   have q0:wr.cell? ⟨b,off+m,none⟩=some (strV st[m]):=(World.cell?_of_block hnx.2).trans (hc m _ (by simp [strsV,hml]))
   dsimp only at hy
   rw [hmI]
   have HM:=Hdz hm
   clear hY hm
   have hm0:(0:Int)<=(m:Int):=by omega
   have hmlt:(m:Int)<(st.length:Int):=by omega
   gi_wp2
   refine hR.mono ?_
   rintro e W3 ⟨rfl,hJ3,hk3⟩
   gi_wp2
   go_roundw
   case rel=>exact ⟨k+1,by omega,by have:=HM.out;congr 1;omega,hJ3,hnx.trans hk3⟩
   case measure=>simp [Go.RowKit.intOf]
  ·obtain rfl:k=st.length:=by omega
   gi_wp2
   go_end0
   exact ⟨⟨_,rfl⟩,hJs⟩
theorem backS1_nil_in (F:Fence) (n:Nat) (hf:F.fn 265) (hro:F.round=none) (l Bs c:Nat) (A:Option Addr) (J:Nat->World->Prop) (W:World) (hBs:W.cell? ⟨Bs,0,none⟩=some (.slice A 0 c)) (h0:J 0 W) :
  CallsIn F n Tryz.prog 265 #[.func (.yield l) #[] #[],.pointer (some ⟨Bs,0,none⟩)] W λ e W'=>(∃ v,e=.returned v)/\J 0 W':=by
 refine callsIn_of_wp Tryz.func265 rfl hf ?_ hro
 simp only [Tryz.ntmps265,List.size_toArray,List.length_cons,List.length_nil,Nat.reduceAdd,Nat.reduceSub,Array.replicate_succ,Array.replicate_zero,List.push_toArray,List.append_toArray,List.nil_append,List.cons_append]
 gi_wp2
 gi_loopw [3] (λ i wr=>i=.int .i64 (-1)/\J 0 wr) (λ _ _=>0)
 case atStart=>exact ⟨rfl,h0⟩
 case round =>
  obtain ⟨rfl,hJs⟩:=hrel
  gi_wp2
  go_end0
  exact ⟨⟨_,rfl⟩,hJs⟩
theorem backS_each (F:Fence) (n:Nat) (hf:F.fn 265) (hro:F.round=none) (hn:1<=n) (Bs b off cap:Nat) (A:Option Addr) (st:List Bytes) (hreach:st.length<=100000) (w:World) (hBl:Bs<w.heap.size)
  (hBs:w.cell? ⟨Bs,0,none⟩=some (.slice A st.length cap)) (hA:0<st.length->A=some ⟨b,off,none⟩) (hbl:0<st.length->b<w.heap.size) (hc:∀ j u,(strsV st)[j]? = some u->w.cell? ⟨b,off+j,none⟩=some u) :
  Each F n Tryz.prog 265 #[.pointer (some ⟨Bs,0,none⟩)] (λ x:Fin st.length=>#[.int .i64 (x.1:Int),strV st[x.1]]) (KB Bs b) (backs st.length) w:=λ l J W hW hY h0=>by
 have hBs':=(hW.cell (p:=⟨Bs,0,none⟩) hBl).trans hBs
 rw [backs_len]
 cases st with
 | nil=>exact backS1_nil_in F n hf hro l Bs cap A J W hBs' h0
 | cons s st =>
  rw [hA (by simp)] at hBs'
  exact backS1_in F n hf hro hn l Bs b off cap (s :: st) hreach J hY W hBs' (λ j u hu=>(hW.cell (p:=⟨b,off+j,none⟩) (hbl (by simp))).trans (hc j u hu)) h0
theorem backwardS_in (F:Fence) (n:Nat) (hf:F.fn 232) (hro:F.round=none) (a:Option Addr) (len cap:Nat) (w:World) :
  CallsIn F n Tryz.prog 232 #[.slice a len cap] w λ e w'=>e=.returned (.func (.func 265) #[] #[.pointer (some ⟨w.heap.size,0,none⟩)])/\w'=w.alloc (.cells #[.slice a len cap] 40):=by
 refine callsIn_of_wp Tryz.func232 rfl hf ?_ hro
 simp only [Tryz.ntmps232,List.size_toArray,List.length_cons,List.length_nil,Nat.reduceAdd,Nat.reduceSub,Array.replicate_succ,Array.replicate_zero,List.push_toArray,List.append_toArray,List.nil_append,List.cons_append]
 gi_wp2
 go_ret
 exact ⟨rfl,rfl⟩
attribute [local go_sem] Oper.semAt_some
theorem cutB_nil:cutB []=[]:=by rw [cutB];simp
theorem cutB_long {v:Bytes} (h:240<v.length):cutB v=v.take 240 :: cutB (v.drop 240):=by rw [cutB,dif_pos h]
theorem cutB_short {v:Bytes} (h:¬ 240<v.length) (h0:v≠[]):cutB v=[v]:=by rw [cutB,dif_neg h,if_neg h0]
theorem cut_flat:∀ (n:Nat) (v:Bytes),v.length<=n->(cutB v).flatten=v
 | 0,v,h=>by
  have:v=[]:=List.eq_nil_of_length_eq_zero (by omega)
  subst this
  rw [cutB_nil];rfl
 | n+1,v,h=>by
  by_cases h1:240<v.length
  ·rw [cutB_long h1,List.flatten_cons,cut_flat n (v.drop 240) (by rw [List.length_drop];omega),List.take_append_drop]
  ·by_cases h0:v=[]
   ·subst h0;rw [cutB_nil];rfl
   ·rw [cutB_short h1 h0];simp
theorem cut_ne {v:Bytes} (h:v≠[]):cutB v≠[]:=by
 by_cases h1:240<v.length
 ·rw [cutB_long h1];simp
 ·rw [cutB_short h1 h];simp
theorem cut_piece:∀ (n:Nat) (v:Bytes),v.length<=n->∀ i (hi:i<(cutB v).length),1<=(cutB v)[i].length/\(cutB v)[i].length<=240/\(i+1<(cutB v).length->(cutB v)[i].length=240)
 | 0,v,h,i,hi=>by
  have:v=[]:=List.eq_nil_of_length_eq_zero (by omega)
  subst this
  rw [cutB_nil] at hi
  simp at hi
 | n+1,v,h,i,hi=>by
  by_cases h1:240<v.length
  ·have e:=cutB_long h1
   cases i with
   | zero =>
    have:(cutB v)[0]=v.take 240:=by simp [e]
    rw [this,List.length_take]
    omega
   | succ i =>
    have hi':i<(cutB (v.drop 240)).length:=by rw [e] at hi;simpa using hi
    have:(cutB v)[i+1]=(cutB (v.drop 240))[i]:=by simp [e]
    rw [this]
    have ih:=cut_piece n (v.drop 240) (by rw [List.length_drop];omega) i hi'
    refine ⟨ih.1,ih.2.1,λ hl=>ih.2.2 ?_⟩
    rw [e] at hl
    simpa using hl
  ·by_cases h0:v=[]
   ·subst h0
    rw [cutB_nil] at hi
    simp at hi
   ·have e:=cutB_short h1 h0
    have hi0:i=0:=by rw [e] at hi;simpa using hi
    subst hi0
    have:(cutB v)[0]=v:=by simp [e]
    rw [this]
    have:=List.length_pos_iff.2 h0
    refine ⟨by omega,by omega,λ hl=>?_⟩
    rw [e] at hl
    simp at hl
theorem cut_len {v:Bytes}:∀ n,v.length<=n->(cutB v).length*240<=v.length+239:=by
 intro n
 induction n generalizing v with
 | zero =>
  intro h
  have:v=[]:=List.eq_nil_of_length_eq_zero (by omega)
  subst this
  rw [cutB_nil];simp
 | succ n ih =>
  intro h
  by_cases h1:240<v.length
  ·rw [cutB_long h1,List.length_cons]
   have:=ih (v:=v.drop 240) (by rw [List.length_drop];omega)
   rw [List.length_drop] at this
   omega
  ·by_cases h0:v=[]
   ·subst h0;rw [cutB_nil];simp
   ·rw [cutB_short h1 h0]
    have:=List.length_pos_iff.2 h0
    simp
    omega
theorem Grow.cons {M M1:Store} {ids:List Int} {id:Int} {x:Pg} (h:Grow M M1 ids) (hid:M1 id=none):Grow M (updS M1 id (some x)) (id :: ids):=by
 have h1:=h.trans (Grow.one (x:=x) hid)
 refine ⟨λ i hi=>h1.same i λ hm=>hi ?_,λ i hi=>h1.fresh i ?_,?_,λ i hi=>h1.there i ?_⟩
 ·rcases List.mem_append.1 hm with hm | hm
  ·exact List.mem_cons_of_mem _ hm
  ·rw [List.mem_singleton.1 hm];exact List.mem_cons_self ..
 ·rcases List.mem_cons.1 hi with rfl | hi
  ·simp
  ·exact List.mem_append_left _ hi
 ·have:=h1.nodup
  rw [List.nodup_append] at this
  refine List.nodup_cons.2 ⟨λ hm=>this.2.2 id hm id (by simp) rfl,this.1⟩
 ·rcases List.mem_cons.1 hi with rfl | hi
  ·simp
  ·exact List.mem_append_left _ hi
structure OvI (p:Nat) (c:Pc) (most:Nat) (M:Store) (cnt:Nat) (pieces:List Bytes) (B:Nat) (w:World) (k:Nat) (W:World):Prop where
 ex:∃ M1 next ids c1 mv xs,Grow M M1 ids/\((k=0/\next=0/\ids=[])\/(0<k/\next≠0/\0<=next/\next<=100000/\ChainAt M1 next (pieces.drop (pieces.length-k)).flatten ids))/\ids.length=k/\PgOk W p c1 most M1 (cnt+ids.length)/\PgK p c c1 w w ∧
  W.ownsRow B 3 1 mv k xs/\(∀ j,mv.ownBlock=some j->¬ c1.S p j)/\Blk W (w.heap.size+3) 3 #[.int .i64 next]/\Blk W (w.heap.size+4) 35 #[mv]/\(∀ j,c1.S p j->c.S p j\/B<=j)/\c1.maps (w.heap.size+5)
 frame:Keeps (c.S p) w W
 b0:Blk W w.heap.size 94 #[ptrV p]
 b1:Blk W (w.heap.size+1) 3 #[.int .i64 0]
 b2:Blk W (w.heap.size+2) 28 #[.int .i64 0]
 sz:B<=W.heap.size
theorem PgOk.turn {w w':World} {p most cnt:Nat} {c:Pc} {M:Store} {B:Nat} {row:Option Nat} (h:PgOk w p c most M cnt) (hm:c.maps B) (hg:w.grownBy w' row) (hr:∀ r,row=some r->B<=r/\∃ o:Obj,w.heap[r]? = some o/\o.isCells=false):PgOk w' p c most M cnt:=by
 refine h.keeps ((Keeps.refl (λ k=>row=some k) w).grown hg (λ _ e _=>e)) λ k hk e=>?_
 obtain ⟨h1,o,h2,h3⟩:=hr k e
 rcases h.cells k hk with hh | ⟨o',h4,h5⟩
 ·obtain ⟨m1,m2,m3⟩:=hm
  rcases hh with rfl | rfl | rfl<;>omega
 ·rw [h2] at h4;cases h4;rw [h3] at h5;cases h5
theorem blk_turn' {w w':World} {b B:Nat} {t:TypeId} {cs:Array Value} {row:Option Nat} (h:Blk w b t cs) (hg:w.grownBy w' row) (hr:∀ r,row=some r->B<=r/\∃ o:Obj,w.heap[r]? = some o/\o.isCells=false):Blk w' b t cs:=
 h.keeps (S:=λ k=>row=some k) ((Keeps.refl (λ k=>row=some k) w).grown hg (λ _ e _=>e)) λ e=>by
  obtain ⟨_,o,h1,h2⟩:=hr _ e
  unfold Blk at h
  rw [h] at h1
  cases h1
  cases h2
theorem own_turn' {w w':World} {B base z n:Nat} {e:TypeId} {v:Value} {xs:List Value} {row:Option Nat} (h:w.ownsRow base e z v n xs) (hg:w.grownBy w' row) (hr:∀ r,row=some r->B<=r/\∃ o:Obj,w.heap[r]? = some o/\o.isCells=false):w'.ownsRow base e z v n xs:=
 own_keeps h ((Keeps.refl (λ k=>row=some k) w).grown hg (λ _ e _=>e)) λ k hk e=>by
  obtain ⟨_,o,h1,h2⟩:=hr _ e
  obtain ⟨o',h3,h4⟩:=own_cells h k hk
  rw [h1] at h3
  cases h3
  rw [h2] at h4
  cases h4
theorem OvI.own {p:Nat} {c:Pc} {most:Nat} {M:Store} {cnt:Nat} {pieces:List Bytes} {B:Nat} {w:World} (hB:w.heap.size+5<=B):OwnFrom B (OvI p c most M cnt pieces B w):=by
 intro k W W' row h hg hr
 obtain ⟨⟨M1,next,ids,c1,mv,xs,h1,h2,h3,h4,h5,h6,h7,h8,h9,h10,h11⟩,hf,q0,q1,q2,hsz⟩:=h
 have hm:c1.maps B:=by obtain ⟨m1,m2,m3⟩:=h11;exact ⟨by omega,by omega,by omega⟩
 exact ⟨⟨M1,next,ids,c1,mv,xs,h1,h2,h3,h4.turn hm hg hr,h5,own_turn' h6 hg hr,h7,blk_turn' h8 hg hr,blk_turn' h9 hg hr,h10,h11⟩,
  hf.grown hg (λ r e hlt=>by have:=(hr r e).1;omega),blk_turn' q0 hg hr,blk_turn' q1 hg hr,blk_turn' q2 hg hr,Nat.le_trans hsz hg.size⟩
section
variable {p most cnt:Nat} {c:Pc} {M:Store}
def OverPutP (p:Nat) (c:Pc) (most:Nat) (M:Store) (cnt:Nat) (v:Bytes) (w:World) (e:Ending) (w':World):Prop:=
 ∃ id M' ids c',e=.returned (.tuple #[.int .i64 id,.int .i64 0])/\1<=id/\id<=100000/\ChainAt M' id v ids/\Grow M M' ids/\PgOk w' p c' most M' (cnt+ids.length)/\PgK p c c' w w'
theorem overPut_ok (v:Bytes) (w:World) (h:PgOk w p c most M cnt) (hv0:v≠[]) (hv:v.length<=2000) (hroom:cnt+12<=most) :
  Calls Tryz.prog 197 #[ptrV p,strV v] w (OverPutP p c most M cnt v w):=by
 obtain ⟨n,hn⟩:=nmz (v.length)
 have hve:(v==([]:Bytes))=false:=by simpa using hv0
 have hn2:¬ (2000:Int)<(n:Int):=by omega
 have hcl:=cut_len (v:=v) v.length (Nat.le_refl _)
 have HCut:=Hdz (λ W=>cut_any v W (by omega))
 have hBk:=Hdz (λ A len cap W=>callsIn_wide.1 (backwardS_in Fence.wide 9 trivial rfl A len cap W))
 refine (callsIn_wide (n:=9)).1 (callsIn_of_wp_marks Tryz.func197 rfl trivial (wpIn_wide.2 ?_) rfl)
 simp only [Tryz.ntmps197,List.size_toArray,List.length_cons,List.length_nil,Nat.reduceAdd,Nat.reduceSub,Array.replicate_succ,Array.replicate_zero,List.push_toArray,List.append_toArray,List.nil_append,List.cons_append]
 have hbox:∀ W,Below (((((w.alloc (.cells #[ptrV p] 94)).alloc (.cells #[.int .i64 0] 3)).alloc (.cells #[.int .i64 0] 28)).alloc (.cells #[.int .i64 0] 3)).alloc (.cells #[.slice none 0 0] 35)).heap.size (((((w.alloc (.cells #[ptrV p] 94)).alloc (.cells #[.int .i64 0] 3)).alloc (.cells #[.int .i64 0] 28)).alloc (.cells #[.int .i64 0] 3)).alloc (.cells #[.slice none 0 0] 35)) W →
   Below w.heap.size w W/\w.heap.size+5<=W.heap.size/\Blk W w.heap.size 94 #[ptrV p]/\Blk W (w.heap.size+1) 3 #[.int .i64 0]/\Blk W (w.heap.size+2) 28 #[.int .i64 0]/\Blk W (w.heap.size+3) 3 #[.int .i64 0]/\Blk W (w.heap.size+4) 35 #[.slice none 0 0]:=by
  intro W hW
  have hz:=hW.size
  refine ⟨((((((Below.refl _ w).alloc (Nat.le_refl _) _).alloc (by simp) _).alloc (by simp;omega) _).alloc (by simp;omega) _).alloc (by simp;omega) _).trans (hW.mono (by simp;omega)),by simp at hz;omega,Blk.below' ?_ hW,Blk.below' ?_ hW,Blk.below' ?_ hW,Blk.below' ?_ hW,Blk.below' ?_ hW⟩
  ·exact ((((Blk.new' rfl).alloc _).alloc _).alloc _).alloc _
  ·exact (((Blk.new' (by simp)).alloc _).alloc _).alloc _
  ·exact ((Blk.new' (by simp)).alloc _).alloc _
  ·exact (Blk.new' (by simp)).alloc _
  ·exact Blk.new' (by simp)
 have HBox:=Hdz hbox
 have HV0:=Hdz hv0
 clear hbox hv0
 go_wp2_with (fail)
 go_must (refine (HCut.out _).mono ?_)
 rintro e w1 ⟨pv,rfl,ownp,hb1⟩
 obtain ⟨hbw,hz1,x0,x1,x2,x3,x4⟩:=HBox.out w1 hb1
 obtain ⟨pieces,hpc⟩:∃ pieces,pieces=cutB v:=⟨_,rfl⟩
 rw [<- hpc] at ownp hcl
 have hpne:pieces≠[]:=by rw [hpc];exact cut_ne HV0.out
 have hpl:=List.length_pos_iff.2 hpne
 have HPC:=Hdz hpc
 clear hpc HBox hb1
 rcases ownp.2 with ⟨_,h0⟩ | ⟨gp,cp,cur,rfl,hgb,hheap,hnc,hcm,hcs,hcx⟩
 ·omega
 have hpcell:∀ j u,(strsV pieces)[j]? = some u->w1.cell? ⟨gp,0+j,none⟩=some u:=by
  obtain ⟨_,_,e1,_,_,hcl⟩:=Sl.of_own ownp
  cases e1
  obtain ⟨b',o',e2,_,hcl2⟩:=hcl hpl
  cases e2
  exact hcl2
 have hgpl:=(ownp.lt gp rfl).2
 have hgpb:w.heap.size+5<=gp:=by
  have:=(ownp.lt gp rfl).1
  simp at this
  omega
 clear ownp hheap hnc hcm hcs hcx
 go_wp2_with (fail)
 go_must (refine (hBk.out _ _ _ _).mono ?_)
 rintro e w2 ⟨rfl,rfl⟩
 go_wp2_with (fail)
 refine (wpIn_wide (n:=9)).1 ?_
 obtain ⟨W0,hW0⟩:=nmz (w1.alloc (.cells #[.slice (some ⟨gp,0,none⟩) pieces.length cp] 40))
 have hB0:Below w1.heap.size w1 W0:=by rw [<- hW0];exact (Below.refl _ _).alloc (Nat.le_refl _) _
 have hsz:W0.heap.size=w1.heap.size+1:=by rw [<- hW0];simp
 have hbs:W0.cell? ⟨w1.heap.size,0,none⟩=some (.slice (some ⟨gp,0,none⟩) pieces.length cp):=by
  rw [<- hW0]
  exact (Blk.new w1 40 #[.slice (some ⟨gp,0,none⟩) pieces.length cp]).cell 0
 rw [hW0]
 clear hW0
 refine rangeFunc_each rfl (by decide) rfl trivial (enters_of Tryz.func265 (by kernel_rfl) rfl)
  (backS_each Fence.wide 8 trivial rfl (by decide) w1.heap.size gp 0 cp (some ⟨gp,0,none⟩) pieces (by omega) W0 (by omega) hbs (λ _=>rfl) (λ _=>by omega) (λ j u hu=>(hB0.cell (p:=⟨gp,0+j,none⟩) hgpl).trans (hpcell j u hu)))
  (λ h k=>h.trans k) ?hKb (λ _=>rfl) (OvI p c most M cnt pieces W0.heap.size w) ?hI ?h0 (λ i a' _=>a'={ tmps:=#[ptrV p,strV v,ptrV w.heap.size,undef,ptrV (w.heap.size+1),ptrV (w.heap.size+1+1),ptrV (w.heap.size+1+1+1),ptrV (w.heap.size+1+1+1+1),undef,strV pieces[i.1],undef,undef,undef,undef,ptrV p,.bool false,.bool false,strV v,.bool false,.bool false,.bool false,strV v,.int .i64 (n:Int),.bool false,.bool false,strV v,.slice (some ⟨gp,0,none⟩) pieces.length cp,.func (.func 265) #[] #[ptrV w1.heap.size],.int .i64 (i.1:Int),strV pieces[i.1],undef,undef,undef,undef,undef,undef,undef,undef,undef,undef,undef,undef,undef,undef,undef,undef,undef,undef,undef,undef,undef,undef,undef,undef,undef,undef,undef,undef],defers:=[] }) ?hAx ?assign ?body ?done
 case hKb =>
  intro W l o o' hl _ _ _
  exact ⟨World.putObj_heap_other (by omega),World.putObj_heap_other (by omega)⟩
 case hI=>exact OvI.own (by omega)
 case hAx =>
  rintro i a' _ W W' row h1 hg' hr
  exact h1
 case h0 =>
  have hlt:=h.lt
  refine ⟨⟨M,0,[],c,.slice none 0 0,[],Grow.refl M,.inl ⟨rfl,rfl,rfl⟩,rfl,by simpa using (h.below hbw).below hB0,PgK.refl _ _ _,World.ownsRow_nil _ _ _ _,(λ j hj=>by cases hj),Blk.below' x3 hB0,Blk.below' x4 hB0,(λ j hj=>.inl hj),?_⟩,Keeps.of_below (hbw.trans (hB0.mono (by omega))),Blk.below' x0 hB0,Blk.below' x1 hB0,Blk.below' x2 hB0,Nat.le_refl _⟩
  have q:=λ j (hj:j∈c.ids p)=>hlt j (.inl hj)
  exact ⟨by have:=q c.mb (by simp [Pc.ids]);omega,by have:=q c.db (by simp [Pc.ids]);omega,by have:=q c.wb (by simp [Pc.ids]);omega⟩
 case assign =>
  rintro l k i W K hx hI hK
  have HK:=Hdz (hK { tmps:=#[ptrV p,strV v,ptrV w.heap.size,undef,ptrV (w.heap.size+1),ptrV (w.heap.size+1+1),ptrV (w.heap.size+1+1+1),ptrV (w.heap.size+1+1+1+1),undef,strV pieces[i.1],undef,undef,undef,undef,ptrV p,.bool false,.bool false,strV v,.bool false,.bool false,.bool false,strV v,.int .i64 (n:Int),.bool false,.bool false,strV v,.slice (some ⟨gp,0,none⟩) pieces.length cp,.func (.func 265) #[] #[ptrV w1.heap.size],.int .i64 (i.1:Int),strV pieces[i.1],undef,undef,undef,undef,undef,undef,undef,undef,undef,undef,undef,undef,undef,undef,undef,undef,undef,undef,undef,undef,undef,undef,undef,undef,undef,undef,undef,undef],defers:=[] } W (KeepsFrom.refl _ _) (KB.refl _ _ _) hI rfl)
  clear hK hI
  gi_wp2
  exact HK.out
 case body =>
  rintro l k i a' W hx hI rfl
  obtain ⟨⟨M1,next,ids,c1,mv,xs,i1,i2,i3,i4,i5,i6,i7,i8,i9,i10,i11⟩,hf,q0,q1,q2,hWlt⟩:=hI
  have hk:k<pieces.length:=by
   have:=(List.getElem?_eq_some_iff.1 hx).1
   simpa [backs_len] using this
  have hi:i.1=pieces.length-1-k:=by
   rw [backs_at pieces.length k hk,Option.some.injEq] at hx
   rw [<- hx]
  have HIX:=Hdz hi
  have HXX:=Hdz hx
  clear hi hx
  have hnext:0<=next/\next<=4294967295:=by
   rcases i2 with ⟨_,rfl,_⟩ | ⟨_,_,h1,h2,_⟩<;>omega
  obtain ⟨hp1,hp2,hp3⟩:=by
   have:=cut_piece v.length v (Nat.le_refl _) i.1 (by rw [<- HPC.out];exact i.2)
   simp only [<- HPC.out] at this
   exact this
  have g0:W.cell? ⟨w.heap.size,0,none⟩=some (ptrV p):=q0.cell 0
  have g3:W.cell? ⟨w.heap.size+3,0,none⟩=some (.int .i64 next):=i8.cell 0
  have hpl9:pieces.length<=9:=by omega
  have HCl:=Hdz (λ W'=>clone_any ⟨(pieces[i.1]).toArray⟩ W' (by show (pieces[i.1]).toArray.size<=_;simp;omega))
  have HMk:=Hdz (λ W' (hW':PgOk W' p c1 most M1 (cnt+ids.length))=>make_any (M:=M1) ⟨4,next,pieces[i.1]⟩ W' hW' ⟨by simp,by simp,hnext.1,hnext.2,hp2⟩ (by omega))
  have HY:Hid (∀ wX,Below W.drew.heap.size W.drew wX->wX.cell? ⟨w.heap.size,0,none⟩=some (ptrV p)/\wX.cell? ⟨w.heap.size+3,0,none⟩=some (.int .i64 next)/\PgOk wX p c1 most M1 (cnt+ids.length)):=
   λ wX hbX=>by
    have hb:=((Below.refl W.heap.size W).drew).trans hbX
    exact ⟨(Blk.below' q0 hb).cell 0,(Blk.below' i8 hb).cell 0,i4.below hb⟩
  gi_wp2
  refine region_round (by kernel_rfl) (by kernel_rfl) (by rintro ⟨_,_,h⟩;exact h) ?_
  refine any_only (T:=λ a W2=>∃ id c2,M1 id=none/\2<=id/\id<=100000/\PgOk W2 p c2 most (updS M1 id (some ⟨4,next,pieces[i.1]⟩)) (cnt+ids.length+1)/\PgK p c1 c2 W W2/\a={ tmps:=#[ptrV p,strV v,ptrV w.heap.size,undef,ptrV (w.heap.size+1),ptrV (w.heap.size+1+1),ptrV (w.heap.size+1+1+1),ptrV (w.heap.size+1+1+1+1),undef,strV pieces[i.1],.int .i64 id,.int .i64 0,undef,undef,ptrV p,.bool false,.bool false,strV v,.bool false,.bool false,.bool false,strV v,.int .i64 (n:Int),.bool false,.bool false,strV v,.slice (some ⟨gp,0,none⟩) pieces.length cp,.func (.func 265) #[] #[ptrV w1.heap.size],.int .i64 (i.1:Int),strV pieces[i.1],.tuple #[.int .i64 id,.int .i64 0],ptrV p,.int .i64 next,strV pieces[i.1],strV pieces[i.1],.agg #[.int .i64 4,.int .i64 next,strV pieces[i.1]],.tuple #[.int .i64 id,.int .i64 0],.int .i64 id,.int .i64 0,undef,undef,undef,undef,undef,undef,undef,undef,undef,undef,undef,undef,undef,undef,undef,undef,undef,undef,undef],defers:=[] }) ?hT _ _ _ _ ?hA
  case hA =>
   change wpAny _ _ _ _ _ _ _ (World.drew _)
   try simp only [lAz]
   refine tA 2 ?_;try simp only [lAz]
   refine wpAny_ready (rs:=[0,1,3]) (by kernel_rfl) (by simp) (aCz (λ K hK=>?_) (aCz (λ K hK=>?_) (aCz (λ K hK=>?_) AllReady.nil)))
   ·go_simp
    apply hK
    clear hK K
    refine wpAny_ready (rs:=[1,3]) (by kernel_rfl) (by simp) (aCz (λ K hK=>?_) (aCz (λ K hK=>?_) AllReady.nil))
    ·go_simp
     apply hK
     clear hK K
     refine rZz 3 λ K hK=>?_;go_simp
     (go_must (refine (HCl.out _).mono ?_);rintro e wX ⟨rfl,hbX⟩)
     obtain ⟨y0,y1,hpX⟩:=HY.out wX hbX
     go_simp
     apply hK
     clear hK K
     refine rZz 4 λ K hK=>?_;go_simp;apply hK;clear hK K
     refine rZz 5 λ K hK=>?_;go_simp
     (go_must (refine (HMk.out wX hpX).mono ?_);rintro e W2 ⟨id,c2,rfl,m1,m2,m3,m4,m5⟩)
     have HM:=Hdz (Anz m4 m5)
     clear m4 m5
     go_simp
     apply hK
     clear hK K
     refine rZz 6 λ K hK=>?_;go_simp;apply hK;clear hK K
     try simp only [lAz]
     refine tA 7 ?_;try simp only [lAz]
     refine tA 8 ?_;try simp only [lAz]
     refine rZz 9 λ K hK=>?_;go_simp;apply hK;clear hK K
     refine rZz 10 λ K hK=>?_;go_simp;apply hK;clear hK K
     refine wDz ?_
     exact ⟨id,c2,m1,m2,m3,HM.out.1,((PgK.of_below (((Below.refl W.heap.size W).drew).trans hbX)).trans HM.out.2),rfl⟩
    ·go_simp
     (go_must (refine (HCl.out _).mono ?_);rintro e wX ⟨rfl,hbX⟩)
     obtain ⟨y0,y1,hpX⟩:=HY.out wX hbX
     go_simp
     apply hK
     clear hK K
     refine rZz 1 λ K hK=>?_;go_simp;apply hK;clear hK K
     refine rZz 4 λ K hK=>?_;go_simp;apply hK;clear hK K
     refine rZz 5 λ K hK=>?_;go_simp
     (go_must (refine (HMk.out wX hpX).mono ?_);rintro e W2 ⟨id,c2,rfl,m1,m2,m3,m4,m5⟩)
     have HM:=Hdz (Anz m4 m5)
     clear m4 m5
     go_simp
     apply hK
     clear hK K
     refine rZz 6 λ K hK=>?_;go_simp;apply hK;clear hK K
     try simp only [lAz]
     refine tA 7 ?_;try simp only [lAz]
     refine tA 8 ?_;try simp only [lAz]
     refine rZz 9 λ K hK=>?_;go_simp;apply hK;clear hK K
     refine rZz 10 λ K hK=>?_;go_simp;apply hK;clear hK K
     refine wDz ?_
     exact ⟨id,c2,m1,m2,m3,HM.out.1,((PgK.of_below (((Below.refl W.heap.size W).drew).trans hbX)).trans HM.out.2),rfl⟩
   ·go_simp
    apply hK
    clear hK K
    refine wpAny_ready (rs:=[0,3]) (by kernel_rfl) (by simp) (aCz (λ K hK=>?_) (aCz (λ K hK=>?_) AllReady.nil))
    ·go_simp
     apply hK
     clear hK K
     refine rZz 3 λ K hK=>?_;go_simp
     (go_must (refine (HCl.out _).mono ?_);rintro e wX ⟨rfl,hbX⟩)
     obtain ⟨y0,y1,hpX⟩:=HY.out wX hbX
     go_simp
     apply hK
     clear hK K
     refine rZz 4 λ K hK=>?_;go_simp;apply hK;clear hK K
     refine rZz 5 λ K hK=>?_;go_simp
     (go_must (refine (HMk.out wX hpX).mono ?_);rintro e W2 ⟨id,c2,rfl,m1,m2,m3,m4,m5⟩)
     have HM:=Hdz (Anz m4 m5)
     clear m4 m5
     go_simp
     apply hK
     clear hK K
     refine rZz 6 λ K hK=>?_;go_simp;apply hK;clear hK K
     try simp only [lAz]
     refine tA 7 ?_;try simp only [lAz]
     refine tA 8 ?_;try simp only [lAz]
     refine rZz 9 λ K hK=>?_;go_simp;apply hK;clear hK K
     refine rZz 10 λ K hK=>?_;go_simp;apply hK;clear hK K
     refine wDz ?_
     exact ⟨id,c2,m1,m2,m3,HM.out.1,((PgK.of_below (((Below.refl W.heap.size W).drew).trans hbX)).trans HM.out.2),rfl⟩
    ·go_simp
     (go_must (refine (HCl.out _).mono ?_);rintro e wX ⟨rfl,hbX⟩)
     obtain ⟨y0,y1,hpX⟩:=HY.out wX hbX
     go_simp
     apply hK
     clear hK K
     try simp only [lAz]
     refine tA 4 ?_;try simp only [lAz]
     refine rZz 0 λ K hK=>?_;go_simp;apply hK;clear hK K
     refine rZz 5 λ K hK=>?_;go_simp
     (go_must (refine (HMk.out wX hpX).mono ?_);rintro e W2 ⟨id,c2,rfl,m1,m2,m3,m4,m5⟩)
     have HM:=Hdz (Anz m4 m5)
     clear m4 m5
     go_simp
     apply hK
     clear hK K
     refine rZz 6 λ K hK=>?_;go_simp;apply hK;clear hK K
     try simp only [lAz]
     refine tA 7 ?_;try simp only [lAz]
     refine tA 8 ?_;try simp only [lAz]
     refine rZz 9 λ K hK=>?_;go_simp;apply hK;clear hK K
     refine rZz 10 λ K hK=>?_;go_simp;apply hK;clear hK K
     refine wDz ?_
     exact ⟨id,c2,m1,m2,m3,HM.out.1,((PgK.of_below (((Below.refl W.heap.size W).drew).trans hbX)).trans HM.out.2),rfl⟩
   ·go_simp
    (go_must (refine (HCl.out _).mono ?_);rintro e wX ⟨rfl,hbX⟩)
    obtain ⟨y0,y1,hpX⟩:=HY.out wX hbX
    go_simp
    apply hK
    clear hK K
    try simp only [lAz]
    refine rA 1 (v:=?_) (hy:=?hy) ?_;case hy=>(intro w hE;have q0:=hE.cell y1;go_simp;try with_reducible rfl)
    try simp only [lAz]
    refine tA 4 ?_;try simp only [lAz]
    refine rA 0 (v:=?_) (hy:=?hy) ?_;case hy=>(intro w hE;have q0:=hE.cell y0;go_simp;try with_reducible rfl)
    try simp only [lAz]
    refine rZz 5 λ K hK=>?_;go_simp
    (go_must (refine (HMk.out wX hpX).mono ?_);rintro e W2 ⟨id,c2,rfl,m1,m2,m3,m4,m5⟩)
    have HM:=Hdz (Anz m4 m5)
    clear m4 m5
    go_simp
    apply hK
    clear hK K
    refine rZz 6 λ K hK=>?_;go_simp;apply hK;clear hK K
    try simp only [lAz]
    refine tA 7 ?_;try simp only [lAz]
    refine tA 8 ?_;try simp only [lAz]
    refine rZz 9 λ K hK=>?_;go_simp;apply hK;clear hK K
    refine rZz 10 λ K hK=>?_;go_simp;apply hK;clear hK K
    refine wDz ?_
    exact ⟨id,c2,m1,m2,m3,HM.out.1,((PgK.of_below (((Below.refl W.heap.size W).drew).trans hbX)).trans HM.out.2),rfl⟩
  case hT =>
   rintro a W2 ⟨id,c2,m1,m2,m3,m4,m5,rfl⟩
   dsimp only
   obtain ⟨j0,hj,hz0,hz1',hz2⟩:=info_parts infoInt
   obtain ⟨Am,cm,rfl,_⟩:=Sl.of_own i6
   have hnb:∀ j,w.heap.size<=j->j<W0.heap.size->¬ c1.S p j:=λ j h1 h2 e=>by
    rcases i10 j e with e | e
    ·have:=h.lt j e;omega
    ·omega
   have z0:=q0.keeps m5.keeps (hnb _ (by omega) (by omega))
   have z1:=q1.keeps m5.keeps (hnb _ (by omega) (by omega))
   have z2:=q2.keeps m5.keeps (hnb _ (by omega) (by omega))
   have z3:=i8.keeps m5.keeps (hnb _ (by omega) (by omega))
   have z4:=i9.keeps m5.keeps (hnb _ (by omega) (by omega))
   have own6:=own_keeps i6 m5.keeps i7
   have c4:W2.cell? ⟨w.heap.size+4,0,none⟩=some (.slice Am k cm):=z4.cell 0
   have hz2':=m5.keeps.size
   have HA:=Hdz (own6.alloc (.cells #[.int .i64 id] 3))
   have HZ:=Hdz (Anz z0 (Anz z1 (Anz z2 (Anz z3 (Anz z4 (Anz m4 (Anz m5 own6)))))))
   have HI:=Hdz (Anz i1 (Anz i2 (Anz i3 (Anz i5 (Anz i6 (Anz i7 (Anz i10 (Anz i11 (Anz hf (Anz m1 i4))))))))))
   clear z0 z1 z2 z3 z4 m4 m5 own6 i1 i2 i3 i4 i5 i6 i7 i8 i9 i10 i11 hf m1 q0 q1 q2 g0 g3 HY HMk HCl hcl hpcell
   gi_wp2_with (gi_at_builtin;go_must (refine wpListIn_append_at rfl _ _ 35 rfl W0.heap.size 3 j0 _ 1 8 Tryz.underlying35 hj hz0 hz1' hz2 rfl (by decide) _ k xs rfl HA.out ⟨W2.heap.size,0,none⟩ 1 1 [.int .i64 id] rfl rfl (row_newS _ _ _ _ rfl) (by simp [Value.oneCell']) (by unfold maxLen;omega) (by omega) (by simp;omega) ?_))
   intro v4 w4 own4 hg4 hw4
   rw [<- hsz] at own4
   obtain ⟨z0,z1,z2,z3,z4,m4,m5,own6⟩:=HZ.out
   obtain ⟨i1,i2,i3,i5,i6,i7,i10,i11,hf,m1,i4⟩:=HI.out
   obtain ⟨A4,d4,rfl,_⟩:=Sl.of_own own4
   have Ka:Keeps (λ j=>(Value.slice Am k cm).ownBlock=some j) W2 w4:=(Keeps.of_below (S:=λ j=>(Value.slice Am k cm).ownBlock=some j) ((Below.refl _ W2).alloc (Nat.le_refl _) (.cells #[.int .i64 id] 3))).trans ((Keeps.refl (λ j=>(Value.slice Am k cm).ownBlock=some j) _).grown hg4 (λ j hj _=>hj)) (λ _ _ e=>e)
   have hamB:∀ j,(Value.slice Am k cm).ownBlock=some j->W0.heap.size<=j:=λ j hj=>(i6.lt j hj).1
   have y0:=z0.keeps Ka (λ e=>by have:=hamB _ e;omega)
   have y1:=z1.keeps Ka (λ e=>by have:=hamB _ e;omega)
   have y2:=z2.keeps Ka (λ e=>by have:=hamB _ e;omega)
   have y3:=z3.keeps Ka (λ e=>by have:=hamB _ e;omega)
   have y4:=z4.keeps Ka (λ e=>by have:=hamB _ e;omega)
   have d3:w4.cell? ⟨w.heap.size+3,0,none⟩=some (.int .i64 next):=y3.cell 0
   have d4c:w4.cell? ⟨w.heap.size+4,0,none⟩=some (.slice Am k cm):=y4.cell 0
   have e3:=y3.frozen 0
   have e4:=y4.frozen 0
   have hzz4:=Ka.size
   have HE:Hid (KeepsFrom W0.heap.size W ((w4.setCell ⟨w.heap.size+4,0,none⟩ (.slice A4 (k+1) d4)).setCell ⟨w.heap.size+3,0,none⟩ (.int .i64 id))/\KB w1.heap.size gp W ((w4.setCell ⟨w.heap.size+4,0,none⟩ (.slice A4 (k+1) d4)).setCell ⟨w.heap.size+3,0,none⟩ (.int .i64 id))/\OvI p c most M cnt pieces W0.heap.size w (k+1) ((w4.setCell ⟨w.heap.size+4,0,none⟩ (.slice A4 (k+1) d4)).setCell ⟨w.heap.size+3,0,none⟩ (.int .i64 id))):=by
    have hnb:∀ j,w.heap.size<=j->j<W0.heap.size->¬ c1.S p j:=λ j h1 h2 e=>by
     rcases i10 j e with e | e
     ·have:=h.lt j e;omega
     ·omega
    have Kb:Keeps (λ j=>j=w.heap.size+3\/j=w.heap.size+4) w4 ((w4.setCell ⟨w.heap.size+4,0,none⟩ (.slice A4 (k+1) d4)).setCell ⟨w.heap.size+3,0,none⟩ (.int .i64 id)):=((Keeps.refl (λ j=>j=w.heap.size+3\/j=w.heap.size+4) w4).setCell (p:=⟨w.heap.size+4,0,none⟩) (λ _=>.inr rfl) _).setCell (p:=⟨w.heap.size+3,0,none⟩) (λ _=>.inl rfl) _
    have hc2n:∀ j,w.heap.size<=j->j<W0.heap.size->¬ c2.S p j:=λ j h1 h2 e=>by
     rcases m5.sub j e with e | e
     ·exact hnb j h1 h2 e
     ·omega
    have hamc2:∀ j,(Value.slice Am k cm).ownBlock=some j->¬ c2.S p j:=λ j hj e=>by
     rcases m5.sub j e with e | e
     ·exact i7 j hj e
     ·have:=(i6.lt j hj).2;omega
    have k1:Keeps (λ j=>c1.S p j\/(Value.slice Am k cm).ownBlock=some j\/j=w.heap.size+3\/j=w.heap.size+4) W ((w4.setCell ⟨w.heap.size+4,0,none⟩ (.slice A4 (k+1) d4)).setCell ⟨w.heap.size+3,0,none⟩ (.int .i64 id)):=
     ((m5.keeps.mono (S':=λ j=>c1.S p j\/(Value.slice Am k cm).ownBlock=some j\/j=w.heap.size+3\/j=w.heap.size+4) (λ _ _ e=>.inl e)).trans Ka (λ _ _ e=>.inr (.inl e))).trans Kb (λ _ _ e=>.inr (.inr e))
    have hi:=HIX.out
    have hw4s:∀ j,(Value.slice A4 (k+1) d4).ownBlock=some j->¬ c2.S p j/\W0.heap.size<=j:=λ j hj=>by
     rcases hw4 j hj with e | e
     ·exact ⟨hamc2 j e,hamB j e⟩
     ·refine ⟨λ hs=>?_,(own4.lt j hj).1⟩
      have:=m4.lt j hs
      have e':W2.heap.size<=j:=by first | omega | (simp at e;omega)
      omega
    refine ⟨⟨k1.size,λ j o hB hh ho=>?_⟩,⟨?_,?_⟩,⟨⟨updS M1 id (some ⟨4,next,pieces[i.1]⟩),id,id :: ids,c2,.slice A4 (k+1) d4,_,i1.cons m1,.inr ⟨by omega,by omega,by omega,m3,?_⟩,by rw [List.length_cons,i3],?_,⟨Keeps.refl _ _,?_,m5.mb.trans i5.mb,m5.db.trans i5.db,m5.wb.trans i5.wb⟩,own_keeps own4 Kb ?_,λ j hj=>(hw4s j hj).1,?_,?_,?_,?_⟩,?_,?_,?_,?_,?_⟩⟩
    ·refine (k1.block j (Array.getElem?_eq_some_iff.1 hh).1 ?_).trans hh
     rintro (e | e | e | e)
     ·rcases i4.cells j e with e | ⟨o',e1,e2⟩
      ·obtain ⟨n1,n2,n3⟩:=i11
       rcases e with e | e | e<;>omega
      ·rw [hh] at e1;cases e1;rw [ho] at e2;cases e2
     ·obtain ⟨o',e1,e2⟩:=own_cells i6 j e
      rw [hh] at e1;cases e1;rw [ho] at e2;cases e2
     ·omega
     ·omega
    ·refine k1.block _ (by omega) ?_
     rintro (e | e | e | e)
     ·exact hnb _ (by omega) (by omega) e
     ·have:=hamB _ e;omega
     ·omega
     ·omega
    ·refine k1.block _ (by omega) ?_
     rintro (e | e | e | e)
     ·exact hnb _ (by omega) (by omega) e
     ·have:=hamB _ e;omega
     ·omega
     ·omega
    ·have hdrop:pieces.drop (pieces.length-(k+1))=pieces[i.1] :: pieces.drop (pieces.length-k):=by
      have e1:pieces.length-(k+1)=i.1:=by omega
      have e2:pieces.length-k=i.1+1:=by omega
      rw [e1,e2]
      exact List.drop_eq_getElem_cons i.2
     rw [hdrop,List.flatten_cons]
     rcases i2 with ⟨rfl,rfl,rfl⟩ | ⟨hk0,hn0,_,_,hch⟩
     ·rw [Nat.sub_zero,List.drop_length]
      simp only [List.flatten_nil,List.append_nil]
      exact .last (by unfold updS;simp) hp1 hp2
     ·refine .more (by unfold updS;simp) (hp3 (by omega)) hn0 ?_
      exact hch.same λ x hx=>by
       unfold updS
       rw [if_neg]
       rintro rfl
       exact hch.there x hx m1
    ·have:=(m4.keeps Ka (λ j hj e=>hamc2 j e hj)).keeps Kb (λ j hj e=>hc2n j (by omega) (by omega) hj)
     rw [List.length_cons,<- Nat.add_assoc]
     exact this
    ·exact λ j e=>(m5.sub j e).elim (λ e=>(i10 j e).elim .inl (λ e=>.inr (by omega))) (λ e=>.inr (by omega))
    ·exact λ j hj e=>by have:=(hw4s j hj).2;omega
    ·exact (y3.keeps ((Keeps.refl (λ j=>j=w.heap.size+4) w4).setCell (p:=⟨w.heap.size+4,0,none⟩) (λ _=>rfl) _) (λ e=>by omega)).set 0 _
    ·exact (y4.set 0 _).keeps ((Keeps.refl (λ j=>j=w.heap.size+3) _).setCell (p:=⟨w.heap.size+3,0,none⟩) (λ _=>rfl) _) (λ e=>by omega)
    ·exact λ j e=>(m5.sub j e).elim (λ e=>i10 j e) (λ e=>.inr (by omega))
    ·obtain ⟨n1,n2,n3⟩:=i11
     exact ⟨by rw [m5.mb];exact n1,by rw [m5.db];exact n2,by rw [m5.wb];exact n3⟩
    ·refine hf.trans k1 λ j hj e=>?_
     rcases e with e | e | e | e
     ·rcases i10 j e with e | e
      ·exact e
      ·omega
     ·have:=hamB j e;omega
     ·omega
     ·omega
    ·exact y0.keeps Kb (λ e=>by omega)
    ·exact y1.keeps Kb (λ e=>by omega)
    ·exact y2.keeps Kb (λ e=>by omega)
    ·have:=k1.size;omega
   clear y0 y1 y2 y3 y4 z0 z1 z2 z3 z4 m4 m5 own6 i1 i2 i3 i4 i5 i6 i7 i10 i11 hf m1 own4 hg4 hw4 Ka
   gi_wp2_with (fail)
   have hEE:=HE.out
   rw [hsz] at hEE
   exact hEE
 case done =>
  intro D W hD hI hWD
  rename_i KK hKK
  refine hKK _ _ ?_
  dsimp only
  rw [backs_len] at hI
  obtain ⟨⟨M1,next,ids,c1,mv,xs,i1,i2,i3,i4,i5,i6,i7,i8,i9,i10,i11⟩,hf,q0,q1,q2,hWlt⟩:=hI
  obtain ⟨hn0,hn1,hn3,hch⟩:next≠0/\0<=next/\next<=100000/\ChainAt M1 next v ids:=by
   rcases i2 with ⟨e,_⟩ | ⟨_,h1,h2,h3,h4⟩
   ·omega
   ·refine ⟨h1,h2,h3,?_⟩
    rw [Nat.sub_self,List.drop_zero,HPC.out,cut_flat v.length v (Nat.le_refl _)] at h4
    exact h4
  have hDge:w.heap.size+5<=D:=by omega
  have hdlt:D<W.heap.size:=(Array.getElem?_eq_some_iff.1 hWD).1
  have c3:W.cell? ⟨w.heap.size+3,0,none⟩=some (.int .i64 next):=i8.cell 0
  have c1c:W.cell? ⟨w.heap.size+1,0,none⟩=some (.int .i64 0):=q1.cell 0
  have f1:=q1.frozen 0
  have c2c:W.cell? ⟨w.heap.size+2,0,none⟩=some (.int .i64 0):=q2.cell 0
  have f2:=q2.frozen 0
  obtain ⟨Wf,hWf⟩:∃ Wf,Wf=(W.setCell ⟨w.heap.size+1,0,none⟩ (.int .i64 next)).setCell ⟨w.heap.size+2,0,none⟩ (.int .i64 0):=⟨_,rfl⟩
  have KF:Keeps (λ j=>j=w.heap.size+1\/j=w.heap.size+2) W Wf:=by
   rw [hWf]
   exact ((Keeps.refl _ W).setCell (p:=⟨w.heap.size+1,0,none⟩) (λ _=>.inl rfl) _).setCell (p:=⟨w.heap.size+2,0,none⟩) (λ _=>.inr rfl) _
  have hdF:Wf.heap[D]? = some (.deferred (some [])):=(KF.block D hdlt (by omega)).trans hWD
  have r1:Blk Wf (w.heap.size+1) 3 #[.int .i64 next]:=by
   rw [hWf]
   exact (q1.set 0 _).keeps ((Keeps.refl (λ j=>j=w.heap.size+2) _).setCell (p:=⟨w.heap.size+2,0,none⟩) (λ _=>rfl) _) (λ e=>by omega)
  have r2:Blk Wf (w.heap.size+2) 28 #[.int .i64 0]:=by
   rw [hWf]
   exact (q2.keeps ((Keeps.refl (λ j=>j=w.heap.size+1) W).setCell (p:=⟨w.heap.size+1,0,none⟩) (λ _=>rfl) _) (λ e=>by omega)).set 0 _
  have hgp:=grownBy_putObj' Wf D (.deferred none)
  have s1:Blk (Wf.putObj D (.deferred none)) (w.heap.size+1) 3 #[.int .i64 next]:=blk_turn' (B:=w.heap.size+5) r1 hgp (λ r e=>by cases e;exact ⟨hDge,_,hdF,rfl⟩)
  have s2:Blk (Wf.putObj D (.deferred none)) (w.heap.size+2) 28 #[.int .i64 0]:=blk_turn' (B:=w.heap.size+5) r2 hgp (λ r e=>by cases e;exact ⟨hDge,_,hdF,rfl⟩)
  have y1:(Wf.putObj D (.deferred none)).cell? ⟨w.heap.size+1,0,none⟩=some (.int .i64 next):=s1.cell 0
  have y2:(Wf.putObj D (.deferred none)).cell? ⟨w.heap.size+1+1,0,none⟩=some (.int .i64 0):=s2.cell 0
  have HE:Hid (OverPutP p c most M cnt v w (.returned (.tuple #[.int .i64 next,.int .i64 0])) (Wf.putObj D (.deferred none))):=by
   have hnb:∀ j,w.heap.size<=j->j<W0.heap.size->¬ c1.S p j:=λ j h1 h2 e=>by
    rcases i10 j e with e | e
    ·have:=h.lt j e;omega
    ·omega
   have hWF:=i4.keeps KF (λ j hj e=>hnb j (by omega) (by omega) hj)
   have hWP:=hWF.turn i11 hgp (λ r e=>by cases e;exact ⟨hDge,_,hdF,rfl⟩)
   exact ⟨next,M1,ids,c1,rfl,by omega,hn3,hch,i1,hWP,⟨(hf.trans KF (λ i hi e=>by omega)).grown hgp (λ r e hlt=>by cases e;omega),i5.sub,i5.mb,i5.db,i5.wb⟩⟩
  have HW:=Hdz hWf
  have HdF:=Hdz hdF
  clear i1 i2 i3 i4 i5 i6 i7 i8 i9 i10 i11 hf q0 q1 q2 KF hgp r1 r2 s1 s2 hch hWf hdF hWD hbs hpcell hB0 x0 x1 x2 x3 x4 hbw
  go_wp2_with (fail)
  rw [show (W.setCell ⟨w.heap.size+1,0,none⟩ (.int .i64 next)).setCell ⟨w.heap.size+1+1,0,none⟩ (.int .i64 0)=Wf from HW.out.symm]
  refine ⟨by simp,.inl ⟨_,_,rfl,run_takeDeferred HdF.out,?_⟩⟩
  refine ⟨.tuple #[.int .i64 next,.int .i64 0],?_,HE.out⟩
  simp [results,Tryz.results197,go_sem,y1,y2]
end
end Go.Ev
namespace Go.Ev
open Go.Proofs Go.RowKit
abbrev itemAgg (it:Item):Value:=.agg #[strV it.key,strV it.val,.int .i64 it.over,.int .i64 it.size]
section
variable {p most cnt:Nat} {c:Pc} {x:Wc} {M:Store} {made dropped:List Int} {w:World}
def ItemP (p:Nat) (x:Wc) (most:Nat) (M:Store) (cnt:Nat) (made dropped:List Int) (k v:Bytes) (w:World) (e:Ending) (w':World):Prop:=
 ∃ it x' Mc newc,e=.returned (.tuple #[itemAgg it,.int .i64 0])/\it.key=k/\it.right=true/\Grow M Mc newc/\ValAt Mc it v newc/\newc.length<=9/\WkOk w' p x' most Mc (cnt+newc.length) (made++newc) dropped/\WkK p x x' w w'
theorem item_big (k v:Bytes) (h:WkOk w p x most M cnt made dropped) (hk1:1<=k.length) (hk2:k.length<=40) (hv1:60<v.length) (hv:v.length<=2000) (hroom:cnt+12<=most) (hmd:made.length<=50000) :
  Calls Tryz.prog 145 #[ptrV x.b,strV k,strV v] w (ItemP p x most M cnt made dropped k v w):=by
 obtain ⟨i0,hi,hz0,hz1,hz2⟩:=info_parts infoInt
 obtain ⟨n,hn⟩:=nmz (v.length)
 have hn1:¬ (n:Int)<=60:=by omega
 have hv0:v≠[]:=by rintro rfl;simp at hv1
 have h1:=h.alloc (.cells #[strV [],strV [],.int .i64 0,.int .i64 0] 223)
 have hb0:Below w.heap.size w (w.alloc (.cells #[strV [],strV [],.int .i64 0,.int .i64 0] 223)):=(Below.refl _ _).alloc (Nat.le_refl _) _
 have bx0:Blk (w.alloc (.cells #[strV [],strV [],.int .i64 0,.int .i64 0] 223)) w.heap.size 223 #[strV [],strV [],.int .i64 0,.int .i64 0]:=Blk.new _ _ _
 have hsz0:(w.alloc (.cells #[strV [],strV [],.int .i64 0,.int .i64 0] 223)).heap.size=w.heap.size+1:=by simp
 have HP:=Hdz (overPut_ok v _ h1.pg hv0 hv hroom)
 have g0:(w.alloc (.cells #[strV [],strV [],.int .i64 0,.int .i64 0] 223)).cell? ⟨x.b,0,none⟩=some (ptrV p):=h1.blk.cell 0
 have H1:=Hdz h1
 have HB:=Hdz hb0
 have HX:=Hdz bx0
 have HV:=Hdz hv1
 have HN:=Hdz hn
 clear h1 hb0 bx0 hv1
 go_enter Tryz.func145,Tryz.ntmps145
 go_wp2_with (fail)
 go_must (refine HP.out.mono ?_)
 rintro e w1 ⟨id,Mc,ids,c',rfl,hid1,hid2,hch,hg,hpg,hK⟩
 have hw1:=H1.out.pager hpg hK
 have kk1:=WkK.pager (x:=x) hK
 have g1:w1.cell? ⟨x.b,0,none⟩=some (ptrV p):=hw1.blk.cell 0
 have hidl:=chain_len hch
 have hid9:ids.length<=9:=by omega
 have hPg:=overPages_ok id v ids w1 hpg hch hv (by omega)
 rw [hn] at hPg
 have hbx1:=HX.out.keeps hK.keeps (λ e=>by have:=h.lt w.heap.size (.inl e);omega)
 have hids:0<ids.length:=by cases hch<;>simp
 have HPg:=Hdz hPg
 have HA:=Hdz (Anz hch (Anz hg (Anz hw1 (Anz kk1 (Anz hbx1 hK)))))
 clear hPg hch hg hw1 kk1 hbx1 hpg hK
 go_wp2_with (fail)
 go_must (refine HPg.out.mono ?_)
 rintro e w2 ⟨r,rfl,own2,hb2⟩
 obtain ⟨hch,hg,hw1,kk1,hbx1,hK⟩:=HA.out
 have hw2:=hw1.below hb2
 have hbx2:=Blk.below' hbx1 hb2
 have g2:w2.cell? ⟨x.b,1,none⟩=some x.mv:=hw2.blk.cell 1
 rcases own2.2 with ⟨_,h0⟩ | ⟨g,cap,cur,rfl,hgb,hheap,hnc,hcm,hcs,hcx⟩
 ·omega
 have hnews:∀ j u,(intsV ids)[j]? = some u->w2.cell? ((⟨g,0,none⟩:Addr).add j)=some u:=by
  obtain ⟨_,_,e1,_,_,hcl⟩:=Sl.of_own own2
  cases e1
  obtain ⟨b',o',e2,_,hcl2⟩:=hcl hids
  cases e2
  intro j u hu
  rw [addr_add]
  exact hcl2 j u hu
 have hm1:made.length+ids.length<=maxLen:=by unfold maxLen;omega
 have HW2:=Hdz hw2
 have HN2:=Hdz hnews
 have HBX:=Hdz hbx2
 have HKK:=Hdz ((((WkK.of_below HB.out).trans kk1).trans (WkK.of_below hb2)))
 have hzz:w.heap.size+1<=w1.heap.size:=by have:=hK.keeps.size;omega
 have hzz2:=hb2.size
 have hns2:¬ (⟨c',x.b,x.mv,x.dv⟩:Wc).S p w.heap.size:=λ e=>by
  rcases (WkK.pager (x:=x) hK).sub _ e with e | e
  ·have:=h.lt _ e;omega
  ·omega
 clear hch hg hw1 kk1 hbx1 hK hcx hcs hheap own2 hnews hw2 hbx2 hb2 HP HPg
 go_wp2_with (at_builtin;go_must (refine wpList_append_at rfl _ _ 35 rfl 0 3 i0 _ 1 8 Tryz.underlying35 hi hz0 hz1 hz2 rfl (by decide) _ made.length (intsV made) rfl HW2.out.mo ⟨g,0,none⟩ ids.length cap (intsV ids) rfl (by simp [intsV]) HN2.out (ints_one ids) hm1 (by omega) (by omega) ?_))
 intro v4 w4 own4 hg4 hw4
 obtain ⟨h3,kk3⟩:=HW2.out.grownM (l:=ids) hg4 own4 hw4
 have bb:=HW2.out.blkM hg4
 have z1:w4.cell? ⟨x.b,1,none⟩=some x.mv:=bb.cell 1
 have z2:w4.frozen? ⟨x.b,1,none⟩=false:=bb.frozen 1
 obtain ⟨A4,c4,rfl,_⟩:=Sl.of_own own4
 have hzz4:=kk3.keeps.size
 have bx4:=HBX.out.keeps kk3.keeps hns2
 have q0:(w4.setCell ⟨x.b,1,none⟩ (.slice A4 (made.length+ids.length) c4)).cell? ⟨w.heap.size,0,none⟩=some (strV []):=bx4.cell 0
 have q1:(w4.setCell ⟨x.b,1,none⟩ (.slice A4 (made.length+ids.length) c4)).cell? ⟨w.heap.size,1,none⟩=some (strV []):=bx4.cell 1
 have q2:(w4.setCell ⟨x.b,1,none⟩ (.slice A4 (made.length+ids.length) c4)).cell? ⟨w.heap.size,2,none⟩=some (.int .i64 0):=bx4.cell 2
 have q3:(w4.setCell ⟨x.b,1,none⟩ (.slice A4 (made.length+ids.length) c4)).cell? ⟨w.heap.size,3,none⟩=some (.int .i64 0):=bx4.cell 3
 have p0:=bx4.frozen 0
 have p1:=bx4.frozen 1
 have p2:=bx4.frozen 2
 have p3:=bx4.frozen 3
 have hbf:Blk (((((w4.setCell ⟨x.b,1,none⟩ (.slice A4 (made.length+ids.length) c4)).setCell ⟨w.heap.size,0,none⟩ (strV k)).setCell ⟨w.heap.size,1,none⟩ (strV [])).setCell ⟨w.heap.size,2,none⟩ (.int .i64 id)).setCell ⟨w.heap.size,3,none⟩ (.int .i64 (n:Int))) w.heap.size 223 #[strV k,strV [],.int .i64 id,.int .i64 (n:Int)]:=
  (((bx4.set 0 (strV k)).set 1 (strV [])).set 2 (.int .i64 id)).set 3 (.int .i64 (n:Int))
 have HE:Hid (ItemP p x most M cnt made dropped k v w (.returned (.tuple #[.agg #[strV k,strV [],.int .i64 id,.int .i64 (n:Int)],.int .i64 0])) (((((w4.setCell ⟨x.b,1,none⟩ (.slice A4 (made.length+ids.length) c4)).setCell ⟨w.heap.size,0,none⟩ (strV k)).setCell ⟨w.heap.size,1,none⟩ (strV [])).setCell ⟨w.heap.size,2,none⟩ (.int .i64 id)).setCell ⟨w.heap.size,3,none⟩ (.int .i64 (n:Int)))):=by
  obtain ⟨hch,hg,hw1,kk1,hbx1,hK⟩:=HA.out
  have KF:Keeps (λ j=>j=w.heap.size) (w4.setCell ⟨x.b,1,none⟩ (.slice A4 (made.length+ids.length) c4)) (((((w4.setCell ⟨x.b,1,none⟩ (.slice A4 (made.length+ids.length) c4)).setCell ⟨w.heap.size,0,none⟩ (strV k)).setCell ⟨w.heap.size,1,none⟩ (strV [])).setCell ⟨w.heap.size,2,none⟩ (.int .i64 id)).setCell ⟨w.heap.size,3,none⟩ (.int .i64 (n:Int))):=
   ((((Keeps.refl (λ j=>j=w.heap.size) _).setCell (p:=⟨w.heap.size,0,none⟩) (λ _=>rfl) _).setCell (p:=⟨w.heap.size,1,none⟩) (λ _=>rfl) _).setCell (p:=⟨w.heap.size,2,none⟩) (λ _=>rfl) _).setCell (p:=⟨w.heap.size,3,none⟩) (λ _=>rfl) _
  have hkk:=HKK.out.trans kk3
  refine ⟨⟨k,[],id,(n:Int)⟩,_,Mc,ids,rfl,rfl,?_,hg,.inr ⟨by show id≠0;omega,hch,by show (v.length:Int)=n;rw [HN.out]⟩,hid9,h3.keeps KF (λ j hj e=>?_),hkk.fresh KF (λ j e=>by omega)⟩
  ·have hnv:=HN.out
   have hvv:=HV.out
   unfold Item.right inB
   have e1:id≠0:=by omega
   simp only [e1,if_false,Bool.and_eq_true,decide_eq_true_eq,List.isEmpty_nil,and_true]
   refine ⟨⟨by omega,by omega⟩,⟨by omega,by omega⟩,by omega,by omega⟩
  ·rw [e] at hj
   rcases kk3.sub _ hj with e2 | e2
   ·exact hns2 e2
   ·omega
 clear own4 hg4 hw4 bb h3 kk3 bx4
 go_wp2_with (fail)
 refine bodyPost_ret (res_row [strV k,strV [],.int .i64 id,.int .i64 (n:Int)] rfl rfl rfl (by kernel_rfl) hbf) rfl ?_
 exact HE.out
theorem item_any (k v:Bytes) (h:WkOk w p x most M cnt made dropped) (hk1:1<=k.length) (hk2:k.length<=40) (hv:v.length<=2000) (hroom:cnt+12<=most) (hmd:made.length<=50000) :
  Calls Tryz.prog 145 #[ptrV x.b,strV k,strV v] w (ItemP p x most M cnt made dropped k v w):=by
 by_cases h60:v.length<=60
 ·refine (item_small k v w h60).mono ?_
  rintro e w' ⟨rfl,hb⟩
  refine ⟨⟨k,v,0,0⟩,x,M,[],rfl,rfl,?_,Grow.refl M,.inl ⟨rfl,rfl,rfl⟩,by simp,by simpa using h.below hb,WkK.of_below hb⟩
  unfold Item.right inB
  simp only [if_true,Bool.and_eq_true,decide_eq_true_eq]
  exact ⟨⟨by omega,by omega⟩,trivial,h60⟩
 ·exact item_big k v h hk1 hk2 (by omega) hv hroom hmd
theorem old_any (A:Option Addr) (n cc:Nat) (l:List Item) (k:Bytes) (ps:List Pair) (old:List Int) (h:WkOk w p x most M cnt made dropped) (hv:Sl w 4 (.slice A n cc) n (itemsCs l)) (hn:n<=100000) (hr:riseI l=true) (hold:OldAt M l k ps old) (hs:Short ps) (hdl:dropped.length<=100000) :
  Calls Tryz.prog 144 #[ptrV x.b,.slice A n cc,strV k] w (OldP p x most M cnt made dropped old w):=by
 rcases hold with ⟨h1,rfl⟩ | ⟨it,v',h1,h2,h3,h4⟩
 ·refine (old_none (x:=x) A n cc l k w hv hn hr (.inl h1)).mono ?_
  rintro e w' ⟨rfl,hb⟩
  exact ⟨rfl,x,by simpa using h.below hb,WkK.of_below hb⟩
 ·by_cases ho:it.over=0
  ·obtain ⟨_,_,rfl⟩:=h3.resolve_right (λ e=>e.1 ho)
   refine (old_none (x:=x) A n cc l k w hv hn hr (.inr ⟨it,h2,ho⟩)).mono ?_
   rintro e w' ⟨rfl,hb⟩
   exact ⟨rfl,x,by simpa using h.below hb,WkK.of_below hb⟩
  ·exact old_chain A n cc l k it v' old w h hv hn hr h1 h2 ho h3 (hs _ h4) (by have:=val_len h3 (hs _ h4);omega) hdl
theorem ItemsOk.of {l:List Item} (hr:riseI l=true) (hl:(layI l).length<=344) (hn:l.length<=90000):ItemsOk l:=by
 refine ⟨λ y hy=>?_,λ y hy=>?_,by omega,by omega⟩
 ·have:=riseI_right hr y hy
  have hk:=Item.right_key this
  unfold Item.right inB at this
  simp only [Bool.and_eq_true,decide_eq_true_eq] at this
  obtain ⟨_,h2⟩:=this
  refine ⟨by omega,?_⟩
  by_cases ho:y.over=0
  ·rw [if_pos ho] at h2
   simp only [Bool.and_eq_true,decide_eq_true_eq] at h2
   omega
  ·rw [if_neg ho] at h2
   simp only [Bool.and_eq_true,decide_eq_true_eq,List.isEmpty_iff] at h2
   rw [h2.2]
   simp
 ·have:=riseI_right hr y hy
  unfold Item.right inB at this
  simp only [Bool.and_eq_true,decide_eq_true_eq] at this
  obtain ⟨_,h2⟩:=this
  by_cases ho:y.over=0
  ·rw [if_pos ho] at h2
   simp only [Bool.and_eq_true,decide_eq_true_eq] at h2
   exact ⟨⟨by omega,by omega⟩,⟨by omega,by omega⟩⟩
  ·rw [if_neg ho] at h2
   simp only [Bool.and_eq_true,decide_eq_true_eq] at h2
   exact ⟨⟨by omega,by omega⟩,⟨by omega,by omega⟩⟩
theorem layI_ge:∀ l:List Item,l.length<=(layI l).length
 | []=>Nat.le_refl _
 | y :: l=>by
  have h1:=layI_ge l
  have h2:=List.length_pos_iff.2 (Item.lay_ne y [])
  simp only [List.append_nil] at h2
  simp only [layI,List.length_append,List.length_cons]
  omega
theorem old_len {M:Store} {l:List Item} {k:Bytes} {ps:List Pair} {old:List Int} (h:OldAt M l k ps old) (hs:Short ps):old.length<=9:=by
 rcases h with ⟨_,rfl⟩ | ⟨it,v',_,_,h3,h4⟩
 ·simp
 ·exact val_len h3 (hs _ h4)
def LeafAnyP (p:Nat) (x:Wc) (most:Nat) (M:Store) (cnt:Nat) (made dropped:List Int) (l:List Item) (w:World) (e:Ending) (w':World):Prop:=
 ∃ kids M' new x' v,e=.returned (.tuple #[v,.int .i64 0])/\LaidI M l kids M' new/\OwnsC w' w.heap.size v kids/\(∀ k,v.ownBlock=some k->¬ x'.S p k)/\WkOk w' p x' most M' (cnt+new.length) (made++new) dropped/\WkK p x x' w w'
theorem leaves_any (A:Option Addr) (n cc:Nat) (l:List Item) (h:WkOk w p x most M cnt made dropped) (hv:Sl w 4 (.slice A n cc) n (itemsCs l)) (hf:FitI l) (hn:n<=90000) (hroom:cnt+4<=most) (hmd:made.length+1<=100000) :
  Calls Tryz.prog 147 #[ptrV x.b,.slice A n cc] w (LeafAnyP p x most M cnt made dropped l w):=by
 have hl:=hv.len4
 have hok:=ItemsOk.of hf.rise hf.len (by omega)
 rcases hf.fit with hs | ⟨hs,z,ra,y,rb,h1,h2,h3,h4,h5⟩
 ·refine (leaves1_ok A n cc l h hv hok hf.rise hs (by omega) (by omega)).mono ?_
  rintro e w' ⟨id,x',v,rfl,k1,k2,k3,k4,k5,k6,k7⟩
  exact ⟨_,_,[id],x',v,rfl,.inl ⟨id,hs,k1,k2,k3,rfl,rfl,rfl⟩,k4,k5,k6,k7⟩
 ·have happ:=splitI_app h1
  have hll:(z :: ra).length+(y :: rb).length=l.length:=by rw [<- happ,List.length_append]
  refine (leaves2_ok A n cc l (z :: ra) (y :: rb) y rb h hv hok hn hf.rise hs h1 rfl h2 h3 (.of h2 (by omega) (by omega)) (.of h3 (by omega) (by omega)) h4 h5 hroom hmd).mono ?_
  rintro e w' ⟨i1,i2,x',v,rfl,k1,k2,k3,k4,k5,k6,k7,k8,k9,k10⟩
  exact ⟨_,_,[i1,i2],x',v,rfl,.inr ⟨z :: ra,y,rb,i1,i2,hs,h1,k1,k2,k3,k4,k5,k6,rfl,rfl,rfl⟩,k7,k8,k9,k10⟩
theorem Way.trail {M:Store} {key:Bytes} {k:Nat} {id lid:Int} {P:List (Int × Nat × List Child)} {items:List Item} (h:Way M key k id P lid items):Trail M key id P lid items:=by
 induction h with
 | leaf h1 h2 h3 h4 h5=>exact .leaf h1 h2 h3
 | branch h1 h2 h3 h4 h5 h6 _ ih=>exact .branch h1 h2 h3 h6 ih
theorem Way.at {M:Store} {key:Bytes} {k:Nat} {id lid:Int} {P:List (Int × Nat × List Child)} {items:List Item} (h:Way M key k id P lid items):∀ s∈P,s.2.1<s.2.2.length:=by
 induction h with
 | leaf h1 h2 h3 h4 h5=>intro s hs;simp at hs
 | branch h1 h2 h3 h4 h5 h6 _ ih =>
  intro s hs
  rcases List.mem_cons.1 hs with rfl | hs
  ·exact (List.getElem?_eq_some_iff.1 h6).1
  ·exact ih s hs
structure Trk (c:Pc) (p B:Nat) (w1 W:World) (x:Wc):Prop where
 keeps:Keeps (λ j=>c.S p j\/B<=j) w1 W
 sub:∀ j,x.S p j->c.S p j\/B<=j
 size:B<=W.heap.size
 mb:x.c.mb=c.mb
 db:x.c.db=c.db
 wb:x.c.wb=c.wb
theorem Trk.step {c:Pc} {p B:Nat} {w1 W W':World} {x x':Wc} (h:Trk c p B w1 W x) (k:WkK p x x' W W'):Trk c p B w1 W' x':=by
 have hz:=k.keeps.size
 have hs:=h.size
 exact ⟨h.keeps.trans k.keeps λ i _ e=>h.sub i e,λ j e=>(k.sub j e).elim (h.sub j) λ e=>.inr (by omega),by omega,k.mb.trans h.mb,k.db.trans h.db,k.wb.trans h.wb⟩
theorem Trk.below {c:Pc} {p B:Nat} {w1 W W':World} {x:Wc} (h:Trk c p B w1 W x) (k:Below W.heap.size W W'):Trk c p B w1 W' x:=h.step (WkK.of_below k)
end
end Go.Ev
