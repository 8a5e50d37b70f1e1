/-
  Texts of this claim.
-/
import Derived.Test.YtmfoiaaehkandaaGreatDoorMBGwBuck2
set_option linter.unusedVariables false
set_option linter.unusedSimpArgs false
namespace Go.Ev
open Go.Proofs Go.RowKit
def textsV (l:List Bytes):List Value:=l.map strV
theorem open_ok (p:Nat) (root:Int) (W:World) :
  Calls Tryz.prog 33 #[ptrV p,.int .i64 root] W λ e w'=>e=.returned (ptrV W.heap.size)/\w'=W.alloc (.cells #[ptrV p,.int .i64 root,.int .i64 0] 137):=by
 go_enter Tryz.func33,Tryz.ntmps33
 go_wp2_with (fail)
 go_ret
 exact ⟨rfl,rfl⟩
section
variable {p bb most rn:Nat} {S:Nat->Prop} {root:Int} {L:List Bk} {W W':World}
inductive MadesB (L:List Bk) (rn:Nat):List Bytes->Nat->List Bk->Prop
 | nil:MadesB L rn [] rn L
 | snoc {ns:List Bytes} {rn1 rn2:Nat} {L1 L2:List Bk} {name:Bytes}:MadesB L rn ns rn1 L1->MadeB L1 rn1 name rn2 L2->MadesB L rn (ns++[name]) rn2 L2
set_option maxHeartbeats 4000000 in
set_option maxRecDepth 100000 in
theorem makeB_ok (A:Option Addr) (n cc:Nat) (names:List Bytes) (h:BkS p bb most S root rn L W) (hv:Sl W 1 (.slice A n cc) n (textsV names)) (hnl:names.length<=100000) (hm:most<=80000) (hvS:∀ g o,A=some ⟨g,o,none⟩->¬ S g)
  (hg:∀ nm∈names,1<=nm.length/\nm.length<=40) (hR:∀ k rn' L',MadesB L rn (names.take k) rn' L'->Roomy most rn' L') :
  Calls Tryz.prog 38 #[ptrV bb,.slice A n cc] W (ChgP p bb most S (.int .i64 0) (MadesB L rn names) W):=by
 have hnn:names.length=n:=by
  obtain ⟨_,_,e,_,hc,_⟩:=hv
  cases e
  unfold textsV at hc
  rw [List.length_map] at hc
  omega
 have HM:=Hdz (may_ok h.blk 0 (by omega))
 have HH:=Hdz (Anz h (Anz hv (Anz hvS (Anz hg hR))))
 clear h hv hvS hg hR
 go_enter Tryz.func38,Tryz.ntmps38
 go_wp2_with (fail)
 go_must (refine HM.out.mono ?_)
 rintro e w1 ⟨rfl,rfl⟩
 go_wp2_with (fail)
 go_loopg [16] n (λ gk s16 wr=>∃ (i:Nat) (S1:Nat->Prop) (root1:Int) (rn1:Nat) (L1:List Bk),s16=.int .i64 (i:Int)/\i+gk=n/\Hid (MadesB L rn (names.take i) rn1 L1)/\Hid (BkS p bb most S1 root1 rn1 L1 wr)/\Hid (Keeps S W wr)/\Hid (∀ k,S1 k->S k\/W.heap.size<=k))
 case atStart=>exact ⟨0,S,root,rn,L,rfl,by omega,by show MadesB _ _ _ _ _;rw [List.take_zero];exact .nil,HH.out.1,Keeps.refl _ _,λ k hk=>.inl hk⟩
 case round =>
  obtain ⟨i,S1,root1,rn1,L1,rfl,hi,hMd,hB,hK,hS⟩:=hrel
  by_cases h1:i<n
  ·have h1':(i:Int)<(n:Int):=by omega
   have hi0':(0:Int)<=(i:Int):=by omega
   have hw1:IntKind.i64.wrap ((i:Int)+1)=(i:Int)+1:=IntWalk.i64_in _ (by omega)
   obtain ⟨_,hv,hvS,hg,hR⟩:=HH.out
   have hvk:Sl wr 1 (.slice A n cc) n (textsV names):=by
    obtain ⟨A0,c0,e,q1,q2,q3⟩:=hv
    cases e
    refine ⟨A,cc,rfl,q1,q2,λ hp=>?_⟩
    obtain ⟨b',o',e1,e2,e3⟩:=q3 hp
    exact ⟨b',o',e1,Nat.lt_of_lt_of_le e2 hK.out.size,λ j u hu=>(hK.out.cell (p:=⟨b',o'+j,none⟩) e2 (hvS b' o' e1)).trans (e3 j u hu)⟩
   obtain ⟨_,_,e0,_,_,hcl⟩:=hvk
   cases e0
   obtain ⟨blk,off,rfl,hbl,hcell⟩:=hcl (by omega)
   have hiN:i<names.length:=by omega
   obtain ⟨nm,hnm⟩:=nmz (names[i])
   have x1:wr.cell? ⟨blk,off+i,none⟩=some (strV nm):=hcell i _ (by unfold textsV;rw [List.getElem?_map,List.getElem?_eq_getElem hiN,hnm];rfl)
   obtain ⟨g1,g2⟩:=hg nm (by rw [<- hnm];exact List.getElem_mem ..)
   have HO:=Hdz (one_ok nm hB.out (hR i _ _ hMd.out) hm g1 g2)
   have htk:names.take (i+1)=names.take i++[nm]:=by rw [(List.take_append_getElem hiN).symm,hnm]
   have HT:=Hdz htk
   clear hv hvS hg hR hcl hcell hnm htk g1 g2
   go_wp2_with (fail)
   go_must (refine HO.out.mono ?_)
   rintro e w3 ⟨S',root',rn',L',rfl,hQ,hbk,hk,hs⟩
   have HE:Hid (MadesB L rn (names.take (i+1)) rn' L'):=by
    show MadesB _ _ _ _ _
    rw [HT.out]
    exact .snoc hMd.out hQ
   have HB:=Hdz hbk
   have HKK:Hid (Keeps S W w3):=hK.out.trans hk λ j hj e=>(hS.out j e).resolve_right (by omega)
   have HS3:Hid (∀ k,S' k->S k\/W.heap.size<=k):=λ k e=>by
    rcases hs k e with e | e
    ·exact hS.out k e
    ·exact .inr (Nat.le_trans hK.out.size e)
   clear hQ hbk hk hs
   go_wp2_with (fail)
   go_roundg (gk-1)
   case measure=>omega
   case rel=>exact ⟨i+1,S',root',rn',L',by simp,by omega,HE.out,HB.out,HKK.out,HS3.out⟩
  ·have h1':¬ (i:Int)<(n:Int):=by omega
   have hii:i=names.length:=by omega
   have HE:Hid (ChgP p bb most S (.int .i64 0) (MadesB L rn names) W (.returned (.int .i64 0)) wr):=by
    have h1:=hMd.out
    rw [hii,List.take_length] at h1
    exact ⟨S1,root1,rn1,L1,rfl,h1,hB.out,hK.out,hS.out⟩
   clear hii
   go_wp2_with (fail)
   go_ret
   exact HE.out
end
structure Hb (B p bb most rn:Nat) (L:List Bk) (W:World):Prop where
 ex:∃ S root,BkS p bb most S root rn L W/\∀ k,S k->B<=k
 size:B<=W.heap.size
section
variable {B p bb most rn:Nat} {S:Nat->Prop} {root:Int} {L:List Bk} {W W0 W':World}
theorem PgOk.opened {c:Pc} {root:Int} (h:PgOk W p c most (updS (λ _=>none) root (some ⟨2,0,[]⟩)) 1) (hs:∀ k,c.S p k->B<=k) (hB:B<=W.heap.size) :
  Hb B p W.heap.size most 0 [] (W.alloc (.cells #[ptrV p,.int .i64 root,.int .i64 0] 137)):=by
 have hba:Below W.heap.size W (W.alloc (.cells #[ptrV p,.int .i64 root,.int .i64 0] 137)):=(Below.refl _ _).alloc (Nat.le_refl _) _
 refine ⟨⟨λ k=>c.S p k\/k=W.heap.size,root,⟨⟨c,_,[root],1,h.below hba,⟨⟨λ t ht=>?_,by simp [idsT],by simp [idsT]⟩,λ b hb=>by cases hb⟩,λ k=>Iff.rfl,λ e=>by have:=h.lt _ e;omega⟩,Blk.new _ _ _⟩,λ k hk=>?_⟩,Nat.le_trans hB hba.size⟩
 ·rw [List.map_nil,List.mem_singleton] at ht
  subst ht
  exact TreeH.new (by simp [updS])
 ·rcases hk with hk | rfl
  ·exact hs k hk
  ·exact hB
theorem MadeB.few {i rn':Nat} {nm:Bytes} {L':List Bk} (h:MadeB L rn nm rn' L') (hf:FewB i rn L):FewB (i+1) rn' L'/\getB nm L'≠none/\∀ k,getB k L≠none->getB k L'≠none:=by
 rcases h with ⟨h1,rfl,rfl⟩ | ⟨h1,r,rfl,rfl⟩
 ·exact ⟨hf.mono (by omega),h1,λ _ h=>h⟩
 ·refine ⟨hf.ins (by show 0<=i+1;omega) (.inl rfl),?_,λ k h=>getB_ins_some h⟩
  have:=getB_ins (x:=⟨nm,⟨r,[],[r],0⟩⟩) L
  rw [this]
  simp
theorem MadesB.few {i:Nat} {ns:List Bytes} {rn':Nat} {L':List Bk} (h:MadesB L rn ns rn' L') (hf:FewB i rn L):FewB (i+ns.length) rn' L'/\(∀ nm∈ns,getB nm L'≠none)/\∀ k,getB k L≠none->getB k L'≠none:=by
 induction h with
 | nil=>exact ⟨hf,λ nm h=>(by cases h),λ _ h=>h⟩
 | snoc h1 h2 ih =>
  obtain ⟨a1,a2,a3⟩:=ih
  obtain ⟨b1,b2,b3⟩:=h2.few a1
  refine ⟨by rw [List.length_append];exact b1,λ nm hnm=>?_,λ k h=>b3 k (a3 k h)⟩
  rcases List.mem_append.1 hnm with h | h
  ·exact b3 nm (a2 nm h)
  ·rw [List.mem_singleton] at h
   subst h
   exact b2
theorem MadesB.nil_inv {rn':Nat} {L':List Bk} (h:MadesB L rn [] rn' L'):rn'=rn/\L'=L:=by
 generalize e:([]:List Bytes)=l at h
 cases h with
 | nil=>exact ⟨rfl,rfl⟩
 | snoc h1 h2=>simp at e
theorem MadesB.snoc_inv {ns:List Bytes} {nm:Bytes} {rn':Nat} {L':List Bk} (h:MadesB L rn (ns++[nm]) rn' L'):∃ rn1 L1,MadesB L rn ns rn1 L1/\MadeB L1 rn1 nm rn' L':=by
 generalize e:ns++[nm]=l at h
 cases h with
 | nil=>simp at e
 | snoc h1 h2 =>
  obtain ⟨rfl,e2⟩:=List.append_inj' e rfl
  simp only [List.cons.injEq,and_true] at e2
  subst e2
  exact ⟨_,_,h1,h2⟩
end
structure Hf (F:Nat->Prop) (p bb most rn:Nat) (L:List Bk) (W:World):Prop where
 ex:∃ S root,BkS p bb most S root rn L W/\∀ k,S k->F k
 size:∀ k,W.heap.size<=k->F k
def HfP (F:Nat->Prop) (p bb most:Nat) (v:Value) (Q:Nat->List Bk->Prop) (W:World) (e:Ending) (W':World):Prop:=
 ∃ rn' L',e=.returned v/\Q rn' L'/\Hf F p bb most rn' L' W'/\Keeps F W W'
section
variable {F F' G:Nat->Prop} {p bb most rn:Nat} {S:Nat->Prop} {root:Int} {L:List Bk} {W W0 W1 W':World}
theorem Keeps.then (h:Keeps F W W1) (hb:Below W1.heap.size W1 W'):Keeps F W W':=h.trans (Keeps.of_below (S:=F) hb) λ i _ e=>e
theorem Keeps.go (h:Keeps F W W1) (hb:Keeps F W1 W'):Keeps F W W':=h.trans hb λ i _ e=>e
theorem Keeps.base {B:Nat} (h:Keeps F W W1) (hB:B<=W.heap.size) (hF:∀ k,F k->B<=k):Below B W W1:=h.below hB λ i hi e=>by have:=hF i e;omega
theorem Hf.fence (h:Hf F p bb most rn L W) (hk:Keeps G W W') (h1:∀ k,k<W.heap.size->F k->¬ G k) (h2:∀ k,k<W.heap.size->F k->F' k) (h3:∀ k,W'.heap.size<=k->F' k):Hf F' p bb most rn L W':=by
 obtain ⟨S,root,g1,g2⟩:=h.ex
 exact ⟨⟨S,root,g1.keeps hk λ k e=>h1 k (g1.lt k e) (g2 k e),λ k e=>h2 k (g1.lt k e) (g2 k e)⟩,h3⟩
theorem Hf.below (h:Hf F p bb most rn L W) (hb:Below W.heap.size W W'):Hf F p bb most rn L W':=
 h.fence (G:=λ _=>False) (Keeps.of_below hb) (λ _ _ _ e=>e) (λ _ _ e=>e) λ k hk=>h.size k (Nat.le_trans hb.size hk)
theorem Hb.hf {B:Nat} (h:Hb B p bb most rn L W):Hf (λ k=>B<=k) p bb most rn L W:=⟨h.ex,λ k hk=>Nat.le_trans h.size hk⟩
theorem ChgP.hf {v:Value} {Q:Nat->List Bk->Prop} {e:Ending} (h:ChgP p bb most S v Q W e W') (hS:∀ k,S k->F k) (hz:∀ k,W.heap.size<=k->F k):HfP F p bb most v Q W e W':=by
 obtain ⟨S',root',rn',L',rfl,h1,h2,h3,h4⟩:=h
 exact ⟨rn',L',rfl,h1,⟨⟨S',root',h2,λ k hk=>(h4 k hk).elim (hS k) (hz k)⟩,λ k hk=>hz k (Nat.le_trans h3.size hk)⟩,h3.mono λ i _ e=>hS i e⟩
theorem Hf.put (h:Hf F p bb most rn L W) (name key v:Bytes) (b:Bk) (hb:getB name L=some b) (hR:Roomy most rn L) (hA:AfterB most rn L name (insP key v b.t.ps) (b.t.n+1)) (hm:most<=80000) (hk1:1<=name.length) (hk2:name.length<=40) (hg:goodKV key v=true) :
  Calls Tryz.prog 49 #[ptrV bb,strV name,strV key,strV v] W (HfP F p bb most (.int .i64 0) (TurnB L rn name (insP key v b.t.ps) (b.t.n+1)) W):=by
 obtain ⟨S,root,h1,h2⟩:=h.ex
 exact (putB_ok name key v b h1 hb hR hA hm hk1 hk2 hg).mono λ e w' hp=>hp.hf h2 h.size
theorem Hf.del (h:Hf F p bb most rn L W) (name key:Bytes) (b:Bk) (hb:getB name L=some b) (hR:Roomy most rn L) (hA:AfterB most rn L name (delP key b.t.ps) b.t.n) (hm:most<=80000) (hk1:1<=name.length) (hk2:name.length<=40) (hg1:1<=key.length) (hg2:key.length<=40) (hin:(getP key b.t.ps).isSome=true) :
  Calls Tryz.prog 86 #[ptrV bb,strV name,strV key] W (HfP F p bb most (.int .i64 0) (TurnB L rn name (delP key b.t.ps) b.t.n) W):=by
 obtain ⟨S,root,h1,h2⟩:=h.ex
 exact (delB_ok name key b h1 hb hR hA hm hk1 hk2 hg1 hg2 hin).mono λ e w' hp=>hp.hf h2 h.size
theorem Hf.get (h:Hf F p bb most rn L W) (name key:Bytes) (hrn:rn<=20000) (hn:∀ b∈L,b.t.n<=20000) (hk1:1<=name.length) (hk2:name.length<=40) (hg1:1<=key.length) (hg2:key.length<=40) :
  Calls Tryz.prog 95 #[ptrV bb,strV name,strV key] W (GetBP L name key W):=by
 obtain ⟨S,root,h1,h2⟩:=h.ex
 exact getB_ok name key h1 hrn hn hk1 hk2 hg1 hg2
end
theorem sl_new (w:World) (l:List Value) (T:TypeId):Sl (w.alloc (.cells l.toArray T)) 1 (.slice (some ⟨w.heap.size,0,none⟩) l.length l.length) l.length l:=
 ⟨_,_,rfl,Nat.le_refl _,by omega,λ _=>⟨_,_,rfl,by simp,λ j u hu=>by
  rw [Nat.zero_add]
  have h:=(Blk.new w T l.toArray).cell j
  rw [h]
  simpa using hu⟩⟩
theorem MadesB.roomyTake {i k rn rn':Nat} {L L':List Bk} {ns:List Bytes} (h:MadesB L rn (ns.take k) rn' L') (hf:FewB i rn L) (hi:i+ns.length<=124):Roomy 3000 rn' L':=by
 have h1:(ns.take k).length<=ns.length:=by rw [List.length_take];exact Nat.min_le_right _ _
 exact FewB.roomy (h.few hf).1 (by omega)
abbrev DB:=Nat × List Pair
section
variable {D:DB} {F:Nat->Prop} {bb q n:Nat} {l:List (Nat × Ses)} {W W':World}
end
theorem ndP_le {k:Nat} {ps:List Pair} (h:ps.length<=41) (hv:sumV ps<=90000):ndP k ps<=270000:=by
 have h4:min k 17*ps.length<=17*41:=Nat.mul_le_mul (Nat.min_le_right _ _) h
 have hw:=ndP_W k ps
 unfold ndW at hw
 split at hw
 ·omega
 ·omega
theorem ndN_mono {n m:Nat} (ps:List Pair) (h:n<=m):ndN n ps<=ndN m ps:=by
 have:9776*n / 2924<=9776*m / 2924:=Nat.div_le_div_right (Nat.mul_le_mul_left _ h)
 unfold ndN
 omega
section
variable {D:DB} {F:Nat->Prop} {bb q n:Nat} {l:List (Nat × Ses)} {W W':World}
theorem nd_data {D:DB} {td:Tr} (h:ndN D.1 D.2<=300000) (h2:td.ps=D.2) (h3:td.n<=D.1):ndP td.n td.ps<=300000:=by
 refine Nat.le_trans (ndP_N _ _) (Nat.le_trans (ndN_mono _ h3) ?_)
 rw [h2]
 exact h
end
section
variable {D:DB} {F F':Nat->Prop} {bb q n:Nat} {l:List (Nat × Ses)} {W W':World}
end
end Go.Ev
