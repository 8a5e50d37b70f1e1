/-
  Texts of this claim.
-/
import Derived.Test.YtmfoiaaehkandaaGreatDoorMOGvCurs
import Derived.Test.YtmfoiaaehkandaaGreatDoorMOGwUpL
set_option linter.unusedVariables false
set_option linter.unusedSimpArgs false
namespace Go.Ev
open Go.Proofs Go.RowKit
structure UpsE (M:Store) (kids:List Child) (G:List (Int × Nat × List Child)) (k:Nat) (M1:Store) (kids1:List Child) (new:List Int):Prop where
 ups:UpsG M kids (G.take k) M1 kids1 new
 last:0<G.length->G.length<=k->∃ pre s M2 kids2 new1 new2 c,G=pre++[s]/\UpsG M kids pre M2 kids2 new1/\s.2.2[s.2.1]? = some c/\(allC s.2.2 s.2.1 c kids2).length≠1/\LaidG M2 (allC s.2.2 s.2.1 c kids2) kids1 M1 new2/\new=new1++new2
theorem UpsE.nil (M:Store) (kids:List Child) (G:List (Int × Nat × List Child)):UpsE M kids G 0 M kids []:=⟨by rw [List.take_zero];exact .nil,λ h1 h2=>by omega⟩
theorem UpsE.step {M M1 M2:Store} {kids kids1 kids2:List Child} {G pre post:List (Int × Nat × List Child)} {s:Int × Nat × List Child} {k:Nat} {new new2:List Int} {c:Child} (h:UpsE M kids G k M1 kids1 new) (hG:G=pre++s :: post) (hk:pre.length=k) (hc:s.2.2[s.2.1]? = some c)
  (hl:LaidG M1 (allC s.2.2 s.2.1 c kids1) kids2 M2 new2) (h1:post=[]->(allC s.2.2 s.2.1 c kids1).length≠1):UpsE M kids G (k+1) M2 kids2 (new++new2):=by
 have e0:G.take k=pre:=by rw [hG,<- hk,List.take_left]
 have e1:G.take (k+1)=pre++[s]:=by
  rw [hG,<- hk,List.take_append,List.take_of_length_le (Nat.le_succ _)]
  simp
 have hu:UpsG M kids pre M1 kids1 new:=by have:=h.ups;rw [e0] at this;exact this
 refine ⟨by rw [e1];obtain ⟨a,b,d⟩:=s;exact .snoc hu hc hl,λ _ h2=>?_⟩
 have hp:post=[]:=by
  rw [hG] at h2
  simp only [List.length_append,List.length_cons] at h2
  exact List.eq_nil_of_length_eq_zero (by omega)
 exact ⟨pre,s,M1,kids1,new,new2,c,by rw [hG,hp],hu,hc,h1 hp,hl,rfl⟩
theorem UpsE.fin {M M1 M':Store} {kids kids1:List Child} {G:List (Int × Nat × List Child)} {new new3:List Int} {root:Int} {k:Nat} (h:UpsE M kids G k M1 kids1 new) (hk:G.length<=k) (hf:FinG M1 kids1 root M' new3):EndG M kids G root M' (new++new3) []:=by
 cases hG:G with
 | nil =>
  have hu:=h.ups
  rw [hG,List.take_nil] at hu
  obtain ⟨rfl,rfl,rfl⟩:=hu.none
  exact .inl ⟨rfl,rfl,by simpa using hf⟩
 | cons a b =>
  obtain ⟨pre,s,M2,kids2,new1,new2,c,e,h1,h2,h3,h4,h5⟩:=h.last (by rw [hG];simp) hk
  rw [<- hG]
  exact .inr ⟨pre,s,M2,kids2,new1,c,e,h1,h2,.inr ⟨M1,kids1,new2,new3,h3,h4,hf,by rw [h5],rfl⟩⟩
structure UpGI (p:Nat) (x:Wc) (most:Nat) (M:Store) (cnt:Nat) (made dropped:List Int) (st:List Step) (pv kv0:Value) (kids:List Child) (w:World) (k:Nat) (W:World):Prop where
 ex:∃ M1 kids1 new x1 kv,UpsE M kids (st.map Step.ghost).reverse k M1 kids1 new/\WkOk W p x1 most M1 (cnt+new.length) (made++new) (dropped++((st.map Step.ghost).reverse.take k).map (·.1)) ∧
  WkK p x x1 w w/\OwnsC W 0 kv kids1/\Blk W (w.heap.size+2) 240 #[kv]/\(∀ j,kv.ownBlock=some j->¬ x1.S p j/\(kv0.ownBlock=some j\/w.heap.size+6<=j))/\(∀ j,w.heap.size<=j->j<w.heap.size+6->¬ x1.S p j)/\(∀ j,x1.S p j->x.S p j\/w.heap.size<=j)/\x1.b=x.b/\x1.c.maps (w.heap.size+6)
 frame:Keeps (λ j=>x.S p j\/kv0.ownBlock=some j) w W
 b3:Blk W w.heap.size 233 #[ptrV x.b]
 b4:Blk W (w.heap.size+1) 216 #[pv]
 b6:Blk W (w.heap.size+3) 3 #[.int .i64 0]
 b7:Blk W (w.heap.size+4) 28 #[.int .i64 0]
 bs:Blk W (w.heap.size+5) 216 #[pv]
theorem UpGI.own {p:Nat} {x:Wc} {most:Nat} {M:Store} {cnt:Nat} {made dropped:List Int} {st:List Step} {pv kv0:Value} {kids:List Child} {w:World} {B:Nat} (hB:w.heap.size+6<=B):OwnFrom B (UpGI p x most M cnt made dropped st pv kv0 kids w):=by
 intro k W W' row h hg hr
 obtain ⟨⟨M1,kids1,new,x1,kv,h1,h2,h3,h4,h5,h6,h7,h8,h9,h10⟩,hf,q3,q4,q6,q7,qs⟩:=h
 have hm:x1.c.maps B:=by obtain ⟨m1,m2,m3⟩:=h10;exact ⟨by omega,by omega,by omega⟩
 exact ⟨⟨M1,kids1,new,x1,kv,h1,h2.turn hm hg hr,h3,own_turn h4 hg hr,blk_turn h5 hg hr,h6,h7,h8,h9,h10⟩,
  hf.grown hg (λ r e hlt=>by have:=(hr r e).1;omega),blk_turn q3 hg hr,blk_turn q4 hg hr,blk_turn q6 hg hr,blk_turn q7 hg hr,blk_turn qs hg hr⟩
structure UpGX (p:Nat) (x:Wc) (most:Nat) (M:Store) (cnt:Nat) (made dropped:List Int) (st:List Step) (kv0:Value) (kids:List Child) (w:World) (k:Nat) (W:World):Prop where
 ex:∃ root M1 new drp x1,EndG M kids (st.map Step.ghost).reverse root M1 new drp/\WkOk W p x1 most M1 (cnt+new.length) (made++new) (dropped++(st.map Step.ghost).reverse.map (·.1)++drp)/\WkK p x x1 w w/\x1.c.maps (w.heap.size+6) ∧
  Blk W (w.heap.size+3) 3 #[.int .i64 root]/\Blk W (w.heap.size+4) 28 #[.int .i64 0]
 frame:Keeps (λ j=>x.S p j\/kv0.ownBlock=some j) w W
theorem UpGX.own {p:Nat} {x:Wc} {most:Nat} {M:Store} {cnt:Nat} {made dropped:List Int} {st:List Step} {kv0:Value} {kids:List Child} {w:World} {B:Nat} (hB:w.heap.size+6<=B):OwnFrom B (UpGX p x most M cnt made dropped st kv0 kids w):=by
 intro k W W' row h hg hr
 obtain ⟨⟨root,M1,new,drp,x1,h1,h2,h3,h4,h5,h6⟩,hf⟩:=h
 have hm:x1.c.maps B:=by obtain ⟨m1,m2,m3⟩:=h4;exact ⟨by omega,by omega,by omega⟩
 exact ⟨⟨root,M1,new,drp,x1,h1,h2.turn hm hg hr,h3,h4,blk_turn h5 hg hr,blk_turn h6 hg hr⟩,hf.grown hg (λ r e hlt=>by have:=(hr r e).1;omega)⟩
def UpGP (p:Nat) (x:Wc) (most:Nat) (M:Store) (cnt:Nat) (made dropped:List Int) (st:List Step) (kv0:Value) (kids:List Child) (w:World) (e:Ending) (w':World):Prop:=
 ∃ root M' new drp x',e=.returned (.tuple #[.int .i64 root,.int .i64 0])/\EndG M kids (st.map Step.ghost).reverse root M' new drp/\WkOk w' p x' most M' (cnt+new.length) (made++new) (dropped++(st.map Step.ghost).reverse.map (·.1)++drp)/\WkK p x x' w w ∧
  Keeps (λ j=>x.S p j\/kv0.ownBlock=some j) w w'
open Go.Shelf
attribute [local go_sem] Oper.semAt_some
set_option maxRecDepth 100000 in
set_option maxHeartbeats 2000000 in
theorem back1_inS (F:Fence) (n:Nat) (hf:F.fn 239) (hro:F.round=none) (hn:1<=n) (l Bs b off cap:Nat) (st:List Step) (hreach:st.length<=100000) (J Jx:Nat->World->Prop)
  (hY:∀ (k:Nat) (x:Fin st.length) W,(backs st.length)[k]? = some x->J k W->YieldAt F (n-1) Tryz.prog l #[.int .i64 (x.1:Int),stepV st[x.1]] W λ e W'=>(e=.returned (.bool true)/\J (k+1) W'/\KB Bs b W W')\/(e=.returned (.bool false)/\Jx (k+1) W'))
  (W:World) (hBs:W.cell? ⟨Bs,0,none⟩=some (.slice (some ⟨b,off,none⟩) st.length cap)) (hc:∀ j u,(stepsCs st)[j]? = some u->W.cell? ⟨b,off+j,none⟩=some u) (h0:J 0 W) :
  CallsIn F n Tryz.prog 239 #[.func (.yield l) #[] #[],.pointer (some ⟨Bs,0,none⟩)] W λ e W'=>(∃ v,e=.returned v)/\(J st.length W'\/∃ k,k<=st.length/\Jx k W'):=by
 refine callsIn_of_wp Tryz.func239 rfl hf ?_ hro
 simp only [Tryz.ntmps239,List.size_toArray,List.length_cons,List.length_nil,Nat.reduceAdd,Nat.reduceSub,Array.replicate_succ,Array.replicate_zero,List.push_toArray,List.append_toArray,List.nil_append,List.cons_append]
 gi_wp2
 gi_loopw [3] (λ i wr=>∃ k:Nat,k<=st.length/\i=.int .i64 ((st.length:Int)-1-k)/\J k wr/\KB Bs b W wr)
  (λ i _=>(Go.RowKit.intOf i+1).toNat)
 case atStart=>exact ⟨0,Nat.zero_le _,by simp,h0,KB.refl _ _ _⟩
 case round =>
  obtain ⟨k,hk,rfl,hJs,hnx⟩:=hrel
  have hBx:wr.cell? ⟨Bs,0,none⟩=some (.slice (some ⟨b,off,none⟩) st.length cap):=(World.cell?_of_block hnx.1).trans hBs
  by_cases hlt:k<st.length
  ·obtain ⟨m,hm⟩:∃ m,m=st.length-1-k:=⟨_,rfl⟩
   have hmI:(st.length:Int)-1-(k:Int)=(m:Int):=by omega
   have hml:m<st.length:=by omega
   obtain ⟨fn,tmps,assign,body,hy,hR⟩:=hY k ⟨m,hml⟩ wr (by rw [backs_at _ _ hlt];congr;exact hm.symm) hJs
   have hcx:∀ j u,(stepCs st[m])[j]? = some u->wr.cell? ⟨b,off+m*3+j,none⟩=some u:=λ j u hu=>by
    have hj:j<3:=(List.getElem?_eq_some_iff.1 hu).1
    rw [Nat.add_assoc]
    exact (World.cell?_of_block hnx.2).trans (hc (m*3+j) u ((stepsCs_at st m j hml hj).trans hu))
   have q0:wr.cell? ⟨b,off+m*3,none⟩=some (.int .i64 st[m].id):=hcx 0 _ rfl
   have q1:wr.cell? ⟨b,off+m*3+1,none⟩=some (.int .i64 st[m].at'):=hcx 1 _ rfl
   have q2:wr.cell? ⟨b,off+m*3+2,none⟩=some st[m].v:=hcx 2 _ rfl
   unfold stepV at hy
   dsimp only at hy
   rw [hmI]
   have HM:=Hdz hm
   clear hcx hY hm
   have hm0:(0:Int)<=(m:Int):=by omega
   have hmlt:(m:Int)<(st.length:Int):=by omega
   gi_wp2
   refine hR.mono ?_
   rintro e W3 (⟨rfl,hJ3,hk3⟩ | ⟨rfl,hJ3⟩)
   ·gi_wp2
    go_roundw
    case rel=>exact ⟨k+1,by omega,by have:=HM.out;congr 1;omega,hJ3,hnx.trans hk3⟩
    case measure=>simp [Go.RowKit.intOf]
   ·gi_wp2
    first | go_end0 | ((try simp only [Exit.inBlock,Exit.then]);refine bodyPost_ret (results_none rfl _ _ _) rfl ?_) | go_ret
    exact ⟨⟨_,rfl⟩,.inr ⟨k+1,by omega,hJ3⟩⟩
  ·obtain rfl:k=st.length:=by omega
   gi_wp2
   go_end0
   exact ⟨⟨_,rfl⟩,.inl hJs⟩
theorem back_eachS (F:Fence) (n:Nat) (hf:F.fn 239) (hro:F.round=none) (hn:1<=n) (Bs b off cap:Nat) (A:Option Addr) (st:List Step) (hreach:st.length<=100000) (w:World) (hBl:Bs<w.heap.size)
  (hBs:w.cell? ⟨Bs,0,none⟩=some (.slice A st.length cap)) (hA:0<st.length->A=some ⟨b,off,none⟩) (hbl:0<st.length->b<w.heap.size) (hc:∀ j u,(stepsCs st)[j]? = some u->w.cell? ⟨b,off+j,none⟩=some u) :
  EachS F n Tryz.prog 239 #[.pointer (some ⟨Bs,0,none⟩)] (λ x:Fin st.length=>#[.int .i64 (x.1:Int),stepV st[x.1]]) (KB Bs b) (backs st.length) w:=λ l J Jx W hW hY h0=>by
 have hBs':=(hW.cell (p:=⟨Bs,0,none⟩) hBl).trans hBs
 rw [backs_len]
 cases st with
 | nil=>exact (back1_nil_in F n hf hro l Bs cap A J W hBs' h0).mono λ e W' ⟨h1,h2⟩=>⟨h1,.inl h2⟩
 | cons s st =>
  rw [hA (by simp)] at hBs'
  exact back1_inS F n hf hro hn l Bs b off cap (s :: st) hreach J Jx hY W hBs' (λ j u hu=>(hW.cell (p:=⟨b,off+j,none⟩) (hbl (by simp))).trans (hc j u hu)) h0
end Go.Ev
