/-
  Texts of this claim.
-/
import Derived.Test.YtmfoiaaehkandaaGreatDoorMBGwAlive19
import Derived.Test.YtmfoiaaehkandaaGreatDoorMBGwLight19
set_option linter.unusedVariables false
set_option linter.unusedSimpArgs false
namespace Go.Ev
open Go.Proofs Go.RowKit
def lastTerm:Int->List LogE->Int
 | u,[]=>u
 | _,o :: l=>lastTerm o.term l
theorem followT_follow:∀ {es:List LogE} {b:Nat} {u:Int},FollowT (b:Int) u es->Follow b es
 | [],_,_,_=>trivial
 | o :: l,b,u,h=>by
  have h1:o.idx=((b+1:Nat):Int):=by have:=h.1;omega
  have h2:=h.2.2
  rw [h1] at h2
  exact ⟨h1,followT_follow h2⟩
theorem followT_take:∀ {es:List LogE} {i u:Int} (k:Nat),FollowT i u es->FollowT i u (es.take k)
 | [],_,_,k,_=>by simp [FollowT]
 | o :: l,i,u,0,h=>trivial
 | o :: l,i,u,k+1,h=>⟨h.1,h.2.1,followT_take k h.2.2⟩
theorem followT_drop:∀ {es:List LogE} {i u:Int} (k:Nat),FollowT i u es->k<=es.length->FollowT (i+(k:Int)) (lastTerm u (es.take k)) (es.drop k)
 | es,i,u,0,h,_=>by
  have e:i+((0:Nat):Int)=i:=by omega
  rw [e]
  exact h
 | [],i,u,k+1,h,hk=>by simp at hk
 | o :: l,i,u,k+1,h,hk=>by
  have h1:=followT_drop (es:=l) k h.2.2 (by simpa using hk)
  have e:o.idx+(k:Int)=i+((k+1:Nat):Int):=by have:=h.1;omega
  rw [e] at h1
  exact h1
theorem followT_app:∀ {A B:List LogE} {i u:Int},FollowT i u A->FollowT (i+(A.length:Int)) (lastTerm u A) B->FollowT i u (A++B)
 | [],B,i,u,_,h=>by
  have e:i+(([]:List LogE).length:Int)=i:=by simp
  rw [e] at h
  exact h
 | o :: A,B,i,u,h,h2=>by
  refine ⟨h.1,h.2.1,followT_app h.2.2 ?_⟩
  have e:o.idx+(A.length:Int)=i+((o :: A).length:Int):=by have:=h.1;simp only [List.length_cons];omega
  rw [e]
  exact h2
theorem lastTerm_take:∀ {es:List LogE} {u:Int} (k:Nat) (h:k<es.length),lastTerm u (es.take (k+1))=es[k].term
 | o :: l,u,0,_=>by simp [lastTerm]
 | o :: l,u,k+1,h=>by
  simp only [List.take_succ_cons,lastTerm,List.getElem_cons_succ]
  exact lastTerm_take k (by simpa using h)
theorem lastTerm_pos:∀ {es:List LogE} {i u:Int},FollowT i u es->0<=u->0<=lastTerm u es
 | [],_,_,_,h=>h
 | o :: l,i,u,h,hu=>(show 0<=lastTerm o.term l from lastTerm_pos h.2.2 (by have:=h.2.1;omega))
theorem lastTerm_i64:∀ {es:List LogE} {u:Int},(∀ o∈es,I64 o.term)->I64 u->I64 (lastTerm u es)
 | [],_,_,h=>h
 | o :: l,u,h,_=>(show I64 (lastTerm o.term l) from lastTerm_i64 (λ x hx=>h x (List.mem_cons_of_mem _ hx)) (h o (List.mem_cons_self ..)))
theorem getD_get {es:List LogE} {k:Nat} (h:k<es.length):es.getD k entD=es[k]:=by rw [List.getD_eq_getElem?_getD,List.getElem?_eq_getElem h];rfl
theorem termE_last {es:List LogE} {k:Nat} (hk:k<=es.length):(termE 0 0 es (k:Int)).1=lastTerm 0 (es.take k):=by
 cases k with
 | zero=>rfl
 | succ k =>
  unfold termE
  rw [if_neg (by omega),if_pos (by omega),lastTerm_take k (by omega),show (((k+1:Nat):Int)-0-1).toNat=k by omega,getD_get (by omega)]
structure MergedOk (fs ms:List LogE) (p a:Nat):Prop where
 len:(fs.take (p+a)++ms.drop a).length=p+a+(ms.length-a)
 foll:FollowT 0 0 (fs.take (p+a)++ms.drop a)
 cut:(fs.take (p+a)++ms.drop a).drop (p+a)=ms.drop a
theorem merged_ok {fs ms:List LogE} {p a:Nat} (h1:FollowT 0 0 fs) (h2:FollowT (p:Int) (termE 0 0 fs (p:Int)).1 ms) (hp:p<=fs.length) (ha:a<ms.length) (hq:p+a<=fs.length) (hm:∀ j,j<a->MatchAt fs ms p j):MergedOk fs ms p a:=by
 have hl:(fs.take (p+a)).length=p+a:=by rw [List.length_take];omega
 refine ⟨by rw [List.length_append,hl,List.length_drop],followT_app (followT_take _ h1) ?_,by rw [List.drop_append_of_le_length (by omega),List.drop_of_length_le (by omega),List.nil_append]⟩
 have h3:=followT_drop a h2 (Nat.le_of_lt ha)
 have e1:lastTerm 0 (fs.take (p+a))=lastTerm (termE 0 0 fs (p:Int)).1 (ms.take a):=by
  cases a with
  | zero =>
   rw [termE_last hp]
   rfl
  | succ a =>
   obtain ⟨g1,g2⟩:=hm a (by omega)
   rw [show p+(a+1)=p+a+1 by omega,lastTerm_take (p+a) g1,lastTerm_take a (by omega),<- getD_get g1,g2,getD_get (by omega)]
 rw [e1,hl,show (0:Int)+((p+a:Nat):Int)=(p:Int)+(a:Int) by omega]
 exact h3
def GoodE (es:List LogE):Prop:=∀ o∈es,EntOk o/\o.data.length<=1000
theorem batchB1 {fs:List LogE} (hf:Follow 0 fs) (hl:fs.length<=30) (hg:GoodE fs):BatchOk 0 0 [] 0 0 0 (some 0) fs none 0:=by
 have hz:I64 0:=⟨by omega,by omega⟩
 exact ⟨⟨hz,hz,hz⟩,hz,lg_few trivial (by simp) (λ o h=>by cases h) (by omega) (by omega),(λ s e=>by cases e),(λ k e=>by cases e;exact Nat.le_refl _),lg_few hf (by show fs.length<=70;omega) hg (by decide) (by omega),λ o h=>(hg o h).1⟩
theorem batchB2 {fs ms:List LogE} {p a:Nat} {x y z:Int} (hx:I64 x) (hy:I64 y) (hz:I64 z) (hf:Follow 0 fs) (hl:fs.length<=30) (hg:GoodE fs) (hgm:GoodE ms) (hlm:ms.length<=30) (hq:p+a<=fs.length) (hM:MergedOk fs ms p a):BatchOk 0 fs.length fs x y z (some (p+a)) (ms.drop a) none 0:=by
 have hgd:GoodE (ms.drop a):=λ o h=>hgm o (List.mem_of_mem_drop h)
 refine ⟨⟨hx,hy,hz⟩,⟨by omega,by omega⟩,lg_few hf (by omega) hg (by omega) (by omega),(λ s e=>by cases e),(λ k e=>by cases e;exact hq),?_,λ o h=>(hgd o h).1⟩
 refine lg_few (followT_follow (b:=0) hM.foll) (by have:=hM.len;show (fs.take (p+a)++ms.drop a).length<=70;omega) (λ o h=>?_) (by show (0:Nat)<=_;omega) (by rw [List.length_drop];omega)
 rcases List.mem_append.1 h with h | h
 ·exact hg o (List.mem_of_mem_take h)
 ·exact hgd o h
theorem batchB3 {L:List LogE} {n k:Nat} {u ap:Int} (hf:Follow 0 L) (hl:L.length<=60) (hg:GoodE L) (hn:n<=100) (hk:k<=L.length) (hu:I64 u) (ha:I64 ap):BatchOk 0 n L 0 0 0 none [] (some ⟨k,u,[3]⟩) ap:=by
 have hz:I64 0:=⟨by omega,by omega⟩
 refine ⟨⟨hz,hz,hz⟩,ha,lg_few hf (by omega) hg (by omega) (by omega),(λ s e=>by cases e;exact ⟨hk,hu,validM_one (by omega) (by omega),by show 0+k+1000<=_;omega⟩),(λ k e=>by cases e),?_,(λ o h=>by cases h)⟩
 show Lg (0+k) (n+0) (L.drop k++[])
 rw [List.append_nil]
 exact lg_few (hf.drop k) (by rw [List.length_drop];omega) (λ o h=>hg o (List.mem_of_mem_drop h)) (by omega) (by omega)
theorem keptB {L:List LogE} {k:Nat} {x y z u ap:Int} (hx:I64 x) (hy:I64 y) (hz:I64 z) (hf:FollowT 0 0 L) (hl:L.length<=60) (hg:GoodE L) (hk:k<=L.length) (hu:u=lastTerm 0 (L.take k)) (hui:I64 u) (ha:I64 ap):Kept x y z (k:Int) u [3] ap (L.drop k):=by
 have hF:=followT_drop k hf hk
 rw [<- hu,show (0:Int)+(k:Int)=(k:Int) by omega] at hF
 have hf2:=followT_follow (b:=k) hF
 refine ⟨⟨hx,hy,hz⟩,⟨⟨by omega,by omega,by omega⟩,by rw [hu];exact lastTerm_pos (followT_take k hf) (by omega),hui⟩,validM_one (by omega) (by omega),ha,⟨λ o h=>?_,by rw [List.length_drop];omega⟩,hF⟩
 obtain ⟨g1,g2⟩:=hg o (List.mem_of_mem_drop h)
 obtain ⟨i,hi,rfl⟩:=List.getElem_of_mem h
 have e:=hf2.at i hi
 have h5:=entB_len g1
 rw [List.length_drop] at hi
 exact ⟨g1,by omega,by omega,by omega⟩
section
variable {F:Nat->Prop} {bb q:Nat} {H:List Pair} {E:DB} {W W':World}
theorem Kn.turn {G:Nat->Prop} (h:Kn F bb q H E W) (hk:Keeps G W W') (hG:∀ k,G k->¬ F k):Kn (λ k=>F k/\¬ (W.heap.size<=k/\k<W'.heap.size)) bb q H E W':=
 h.fence hk (λ k _ e g=>hG k g e) (λ k hk e=>⟨e,λ hh=>by omega⟩) λ k hl=>⟨h.size k (Nat.le_trans hk.size hl),λ hh=>by omega⟩
end
end Go.Ev
