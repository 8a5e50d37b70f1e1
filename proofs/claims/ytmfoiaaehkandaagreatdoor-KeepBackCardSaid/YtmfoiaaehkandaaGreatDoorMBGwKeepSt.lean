/-
  Texts of this claim.
-/
import Derived.Test.YtmfoiaaehkandaaGreatDoorMBGwSess1
set_option linter.unusedVariables false
set_option linter.unusedSimpArgs false
namespace Go.Ev
open Go.Proofs Go.RowKit
def hardK:Bytes:=[104,97,114,100]
def logK:Bytes:=[108,111,103]
def snapK:Bytes:=[115,110,97,112]
def appK:Bytes:=[97,112,112,108,105,101,100]
abbrev twoHL (th tl:Tr):List Bk:=[⟨hardK,th⟩,⟨logK,tl⟩]
structure Kn (F:Nat->Prop) (bb q:Nat) (H:List Pair) (E:DB) (W:World):Prop where
 ex:∃ p rn th tl,Hf F p bb 3000 rn (twoHL th tl) W/\th.ps=H/\tl.ps=E.2/\rn<=q/\th.n<=q/\tl.n<=q/\tl.n<=E.1
 small:H.length<=41/\sumV H<=90000
 room:ndN E.1 E.2<=300000
theorem getB_hard (th tl:Tr):getB hardK (twoHL th tl)=some ⟨hardK,th⟩:=by simp [getB]
theorem getB_log (th tl:Tr):getB logK (twoHL th tl)=some ⟨logK,tl⟩:=by simp [getB,hardK,logK]
theorem insB_hard (th tl t:Tr):insB ⟨hardK,t⟩ (twoHL th tl)=twoHL t tl:=by simp [insB,hardK,logK,lessB,Op.bytesLess]
theorem insB_log (th tl t:Tr):insB ⟨logK,t⟩ (twoHL th tl)=twoHL th t:=by simp [insB,hardK,logK,lessB,Op.bytesLess]
theorem twoHL_n {th tl:Tr} {k:Nat} (h1:th.n<=k) (h2:tl.n<=k):∀ b∈twoHL th tl,b.t.n<=k:=λ b hb=>by
 simp only [List.mem_cons,List.not_mem_nil,or_false] at hb
 rcases hb with rfl | rfl
 ·exact h1
 ·exact h2
theorem hl_room {rn:Nat} {td ts:Tr} (hs:ts.ps.length<=41/\sumV ts.ps<=90000) (hd:ndP td.n td.ps<=300000) (hrn:rn<=20000) (h1:td.n<=20000) (h2:ts.n<=20000) (name:List UInt8) (ps':List Pair) (k:Nat):Roomy 3000 rn (twoHL ts td)/\AfterB 3000 rn (twoHL ts td) name ps' k:=by
 have hsn:=ndP_le (k:=ts.n) hs.1 hs.2
 have h4:min rn 17*2<=17*2:=Nat.mul_le_mul (Nat.min_le_right _ _) (Nat.le_refl _)
 have hl:(topP (twoHL ts td)).length=2:=rfl
 have hv:sumV (topP (twoHL ts td))=8:=by rw [sumV_top];rfl
 have ht:ndP rn (topP (twoHL ts td))<=10000:=by
  have hw:=ndP_W rn (topP (twoHL ts td))
  simp only [ndW,hl,hv] at hw
  split at hw
  ·omega
  ·omega
 have:ndT (⟨0,topP (twoHL ts td),[],rn⟩ :: (twoHL ts td).map (·.t))<=580000:=by
  simp only [ndT,List.map_cons,List.map_nil]
  omega
 exact ⟨⟨hrn,twoHL_n h2 h1,by omega⟩,.inl (by omega)⟩
section
variable {F F':Nat->Prop} {bb q:Nat} {H:List Pair} {E:DB} {W W':World}
theorem Kn.below (h:Kn F bb q H E W) (hb:Below W.heap.size W W'):Kn F bb q H E W':=by
 obtain ⟨p,rn,td,ts,h1,h2⟩:=h.ex
 exact ⟨⟨p,rn,td,ts,h1.below hb,h2⟩,h.small,h.room⟩
theorem Kn.size (h:Kn F bb q H E W):∀ k,W.heap.size<=k->F k:=by
 obtain ⟨p,rn,td,ts,h1,h2⟩:=h.ex
 exact h1.size
theorem Kn.fence {G:Nat->Prop} (h:Kn F bb q H E W) (hk:Keeps G W W') (h1:∀ k,k<W.heap.size->F k->¬ G k) (h2:∀ k,k<W.heap.size->F k->F' k) (h3:∀ k,W'.heap.size<=k->F' k):Kn F' bb q H E W':=by
 obtain ⟨p,rn,td,ts,g1,g2⟩:=h.ex
 exact ⟨⟨p,rn,td,ts,g1.fence hk h1 h2 h3,g2⟩,h.small,h.room⟩
theorem Kn.get (h:Kn F bb q H E W) (hq:q<=20000) (key:Bytes) (hk1:1<=key.length) (hk2:key.length<=40) :
  Calls Tryz.prog 95 #[ptrV bb,strV hardK,strV key] W λ e w'=>(match getP key H with | some v=>e=.returned (.tuple #[strV v,.int .i64 0]) | none=>e=.returned (.tuple #[strV [],.int .i64 7]))/\Below W.heap.size W w':=by
 obtain ⟨p,rn,th,tl,h1,h2,h3,h4,h5,h6,h7⟩:=h.ex
 refine (h1.get hardK key (by omega) (twoHL_n (by omega) (by omega)) (by decide) (by decide) hk1 hk2).mono ?_
 rintro e w' ⟨he,hb⟩
 refine ⟨?_,hb⟩
 rw [getB_hard] at he
 rcases he with ⟨b',v,g1,g2,rfl⟩ | ⟨g1,rfl⟩
 ·cases g1
  rw [<- h2,g2]
 ·simp only [Option.bind_some,h2] at g1
  rw [g1]
theorem Kn.put (h:Kn F bb q H E W) (hq:q<=19000) (key v:Bytes) (hg:goodKV key v=true) (hs:(insP key v H).length<=41/\sumV (insP key v H)<=90000) :
  Calls Tryz.prog 49 #[ptrV bb,strV hardK,strV key,strV v] W λ e w'=>e=.returned (.int .i64 0)/\Kn F bb (q+1) (insP key v H) E w'/\Keeps F W w':=by
 obtain ⟨p,rn,th,tl,h1,h2,h3,h4,h5,h6,h7⟩:=h.ex
 have hsm:=h.small
 rw [<- h2] at hsm
 obtain ⟨r1,r2⟩:=hl_room (rn:=rn) hsm (nd_data h.room h3 h7) (by omega) (by omega) (by omega) hardK (insP key v th.ps) (th.n+1)
 refine (h1.put hardK key v ⟨hardK,th⟩ (getB_hard th tl) r1 r2 (by omega) (by decide) (by decide) hg).mono ?_
 rintro e w' ⟨rn',L',rfl,⟨r,ids,rfl,rfl⟩,hH,hb⟩
 rw [insB_hard] at hH
 exact ⟨rfl,⟨⟨p,rn+1,⟨r,insP key v th.ps,ids,th.n+1⟩,tl,hH,by show insP key v th.ps=_;rw [h2],h3,by omega,by show th.n+1<=_;omega,by omega,h7⟩,hs,h.room⟩,hb⟩
theorem Kn.putL (h:Kn F bb q H E W) (hq:q<=19000) (key v:Bytes) (hg:goodKV key v=true) (hroom:ndN (E.1+1) (insP key v E.2)<=300000) :
  Calls Tryz.prog 49 #[ptrV bb,strV logK,strV key,strV v] W λ e w'=>e=.returned (.int .i64 0)/\Kn F bb (q+1) H (E.1+1,insP key v E.2) w'/\Keeps F W w':=by
 obtain ⟨p,rn,th,tl,h1,h2,h3,h4,h5,h6,h7⟩:=h.ex
 have hsm:=h.small
 rw [<- h2] at hsm
 obtain ⟨r1,r2⟩:=hl_room (rn:=rn) hsm (nd_data h.room h3 h7) (by omega) (by omega) (by omega) logK (insP key v tl.ps) (tl.n+1)
 refine (h1.put logK key v ⟨logK,tl⟩ (getB_log th tl) r1 r2 (by omega) (by decide) (by decide) hg).mono ?_
 rintro e w' ⟨rn',L',rfl,⟨r,ids,rfl,rfl⟩,hH,hb⟩
 rw [insB_log] at hH
 exact ⟨rfl,⟨⟨p,rn+1,th,⟨r,insP key v tl.ps,ids,tl.n+1⟩,hH,h2,by show insP key v tl.ps=_;rw [h3],by omega,by omega,by show tl.n+1<=_;omega,by show tl.n+1<=_;omega⟩,h.small,hroom⟩,hb⟩
theorem Kn.delL (h:Kn F bb q H E W) (hq:q<=19000) (key:Bytes) (hk1:1<=key.length) (hk2:key.length<=40) (hin:(getP key E.2).isSome=true) (hroom:ndN E.1 (delP key E.2)<=300000) :
  Calls Tryz.prog 86 #[ptrV bb,strV logK,strV key] W λ e w'=>e=.returned (.int .i64 0)/\Kn F bb (q+1) H (E.1,delP key E.2) w'/\Keeps F W w':=by
 obtain ⟨p,rn,th,tl,h1,h2,h3,h4,h5,h6,h7⟩:=h.ex
 have hsm:=h.small
 rw [<- h2] at hsm
 rw [<- h3] at hin
 obtain ⟨r1,r2⟩:=hl_room (rn:=rn) hsm (nd_data h.room h3 h7) (by omega) (by omega) (by omega) logK (delP key tl.ps) tl.n
 refine (h1.del logK key ⟨logK,tl⟩ (getB_log th tl) r1 r2 (by omega) (by decide) (by decide) hk1 hk2 hin).mono ?_
 rintro e w' ⟨rn',L',rfl,⟨r,ids,rfl,rfl⟩,hH,hb⟩
 rw [insB_log] at hH
 exact ⟨rfl,⟨⟨p,rn+1,th,⟨r,delP key tl.ps,ids,tl.n⟩,hH,h2,by show delP key tl.ps=_;rw [h3],by omega,by omega,by show tl.n<=_;omega,by show tl.n<=_;omega⟩,h.small,hroom⟩,hb⟩
theorem Kn.treeOf (h:Kn F bb q H E W) (hq:q<=20000) (nm:Bytes) (hnm:nm=hardK\/nm=logK):Calls Tryz.prog 35 #[ptrV bb,strV nm] W λ e w'=>(∃ r:Int,e=.returned (.tuple #[.int .i64 r,.int .i64 0]))/\Below W.heap.size W w':=by
 obtain ⟨p,rn,th,tl,h1,h2,h3,h4,h5,h6,h7⟩:=h.ex
 obtain ⟨S,root,g1,g2⟩:=h1.ex
 refine (treeB_ok nm g1 (by omega) (by rcases hnm with rfl | rfl<;>decide) (by rcases hnm with rfl | rfl<;>decide)).mono ?_
 rintro e w' ⟨he,hb⟩
 refine ⟨?_,hb⟩
 rcases he with ⟨b',_,rfl⟩ | ⟨e1,_⟩
 ·exact ⟨_,rfl⟩
 ·rcases hnm with rfl | rfl
  ·rw [getB_hard] at e1
   cases e1
  ·rw [getB_log] at e1
   cases e1
end
end Go.Ev
