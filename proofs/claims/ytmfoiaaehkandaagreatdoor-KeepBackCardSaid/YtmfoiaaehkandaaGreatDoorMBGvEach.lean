/-
  Texts of this claim.
-/
import Derived.Test.YtmfoiaaehkandaaGreatDoorMBGvAppend
import Derived.Test.YtmfoiaaehkandaaGreatDoorMBGvGet
import Derived.MapKept
import Derived.OrdersIn
import Derived.RangeFuncBound
import Derived.RangeFuncCalls
import Derived.RangeFuncLeaves
import Derived.RangeFuncNested
import Derived.TacticsIn
set_option linter.unusedVariables false
set_option linter.unusedSimpArgs false
namespace Go.Ev
open Go.Lib
def Child.short (x:Child):Prop:=x.key.length<=40/\I64 x.page
theorem Rd.child_ok (r:Rd):r.child.1.short:=⟨r.text_len (m:=40),Rd.var_i64 _⟩
theorem Child.lay_short {x:Child} (h:x.short):x.lay.length<=60:=by
 obtain ⟨h1,h2⟩:=h
 have k1:=(varB_len (x.key.length:Int) ⟨by omega,by omega⟩).2
 have k3:=(varB_len x.page h2).2
 unfold Child.lay textB
 simp only [List.length_append]
 omega
theorem layC_short:∀ {l:List Child},(∀ x∈l,x.short)->(layC l).length<=60*l.length
 | [],_=>by simp [layC]
 | x :: l,h=>by
  have h1:=Child.lay_short (h x (List.mem_cons_self ..))
  have h2:=layC_short λ y hy=>h y (List.mem_cons_of_mem _ hy)
  simp only [layC,List.length_append,List.length_cons]
  omega
theorem Rd.child_le (r:Rd):r.child.2.b.length<=r.b.length:=by
 unfold Rd.child
 have h1:=r.text_le 40
 have h2:=(r.text 40).2.var_le
 dsimp only
 omega
theorem Rd.children_step {r:Rd} (h:r.e=0/\r.b≠[]):r.children=(r.child.1 :: r.child.2.children.1,r.child.2.children.2):=by
 rw [Rd.children,dif_pos h]
 by_cases h2:r.child.2.e=0
 ·rw [dif_pos h2]
 ·rw [dif_neg h2]
  have:r.child.2.children=([],r.child.2):=by
   rw [Rd.children,dif_neg (λ hc=>h2 hc.1)]
  rw [this]
theorem Rd.children_end {r:Rd} (h:¬ (r.e=0/\r.b≠[])):r.children=([],r):=by rw [Rd.children,dif_neg h]
theorem rightC_cons {c:Child} {L:List Child}:rightC (c :: L)=true↔c.fit=true/\c.key=[]/\riseC [] L=true:=by
 simp only [rightC,Bool.and_eq_true,List.isEmpty_iff,and_assoc]
 constructor
 ·rintro ⟨h1,h2,h3⟩;rw [h2] at h3;exact ⟨h1,h2,h3⟩
 ·rintro ⟨h1,h2,h3⟩;rw [h2];exact ⟨h1,rfl,h3⟩
theorem below_right {k:Bytes} {l:List Child} (h:rightC l=true):below k l=findC k l+1:=by
 cases l with
 | nil=>cases h
 | cons c L =>
  obtain ⟨_,h2,_⟩:=rightC_cons.1 h
  simp only [below,findC,List.tail_cons,h2,lessB_nil]
  simp
theorem below_ge' {k:Bytes} {l:List Child} {i:Nat} {x:Child} (hr:rightC l=true) (h:below k l<=i) (hx:l[i]? = some x):lessB k x.key=true:=by
 have hb:=below_right (k:=k) hr
 cases l with
 | nil=>cases hr
 | cons c L =>
  obtain ⟨_,h2,h3⟩:=rightC_cons.1 hr
  cases i with
  | zero=>omega
  | succ i=>exact below_ge h3 (by unfold findC at hb;simp only [List.tail_cons] at hb;omega) hx
end Go.Ev
namespace Go.Ev
open Go.RowKit Go.ChangeMaps
abbrev Ent:=Int × Value × Nat
def entA (e:Ent):MapEntry:=⟨.int .i64 e.1,e.2.1,e.2.2⟩
def getE:List Ent->Int->Option Value
 | [],_=>none
 | e :: l,k=>if e.1=k then some e.2.1 else getE l k
def putE:List Ent->Int->Value->Nat->List Ent
 | [],k,v,c=>[(k,v,c)]
 | e :: l,k,v,c=>if e.1=k then (k,v,e.2.2) :: l else e :: putE l k v c
def delE:List Ent->Int->List Ent
 | [],_=>[]
 | e :: l,k=>if e.1=k then l else e :: delE l k
def posE:List Ent->Int->Nat
 | [],_=>0
 | e :: l,k=>if e.1=k then 0 else posE l k+1
def clockE (l:List Ent) (k:Int) (c:Nat):Nat:=if (getE l k).isSome then c else c+1
theorem findNow_E:∀ (l:List Ent) (k:Int) (i:Nat),Instr.findNow (.int .i64) (.int .i64 k) (l.map entA) i=some ((getE l k).map λ v=>(i+posE l k,v))
 | [],_,_=>rfl
 | e :: l,k,i=>by
  simp only [List.map_cons,Instr.findNow,entA,Instr.sameNow,if_true,getE,posE]
  by_cases h:e.1=k
  ·simp [h]
  ·have h2:(k==e.1)=false:=by simpa using λ e'=>h e'.symm
   rw [h2,if_neg h,if_neg h,findNow_E l k (i+1)]
   congr 1
   cases getE l k<;>simp<;>omega
theorem posE_at:∀ {l:List Ent} {k:Int} {v:Value},getE l k=some v->∃ e,l[posE l k]? = some e/\e.1=k/\e.2.1=v
 | e :: l,k,v,h=>by
  simp only [getE] at h
  simp only [posE]
  split at h
  ·rename_i he;cases h;rw [if_pos he];exact ⟨e,rfl,he,rfl⟩
  ·rename_i he;rw [if_neg he];exact posE_at (l:=l) h
theorem putE_new:∀ {l:List Ent} {k:Int} {v:Value} {c:Nat},getE l k=none->putE l k v c=l++[(k,v,c)]
 | [],_,_,_,_=>rfl
 | e :: l,k,v,c,h=>by
  simp only [getE] at h
  split at h
  ·cases h
  ·rename_i he;simp only [putE];rw [if_neg he,putE_new h];rfl
theorem putE_old:∀ {l:List Ent} {k:Int} {v v0:Value} {c:Nat} {e:Ent},getE l k=some v0->l[posE l k]? = some e->putE l k v c=l.set (posE l k) (k,v,e.2.2)
 | e :: l,k,v,v0,c,e',h,hp=>by
  simp only [getE] at h
  simp only [putE,posE] at hp ⊢
  split at h
  ·rename_i he;rw [if_pos he] at hp ⊢;rw [if_pos he];cases hp;rfl
  ·rename_i he;rw [if_neg he] at hp ⊢;rw [if_neg he];rw [List.set_cons_succ,putE_old h (by simpa using hp)]
theorem delE_old:∀ {l:List Ent} {k:Int} {v0:Value},getE l k=some v0->delE l k=l.eraseIdx (posE l k)
 | e :: l,k,v0,h=>by
  simp only [getE] at h
  simp only [delE,posE]
  split at h
  ·rename_i he;rw [if_pos he,if_pos he];rfl
  ·rename_i he;rw [if_neg he,if_neg he,List.eraseIdx_cons_succ,delE_old h]
theorem delE_new:∀ {l:List Ent} {k:Int},getE l k=none->delE l k=l
 | [],_,_=>rfl
 | e :: l,k,h=>by
  simp only [getE] at h
  split at h
  ·cases h
  ·rename_i he;simp only [delE];rw [if_neg he,delE_new h]
theorem erase_map {α β:Type} (f:α->β):∀ (l:List α) (k:Nat),(l.map f).eraseIdx k=(l.eraseIdx k).map f
 | [],_=>by simp
 | _ :: _,0=>by simp
 | a :: l,k+1=>by simp [erase_map f l k]
def MapI (w:World) (b:Nat) (l:List Ent) (c:Nat):Prop:=w.heap[b]? = some (.map (l.map entA).toArray c)
section
variable {P:Program} {w:World} {b c:Nat} {l:List Ent} {t kt et:TypeId}
theorem MapI.lt (h:MapI w b l c):b<w.heap.size:=(Array.getElem?_eq_some_iff.1 h).1
theorem MapI.keeps {S:Nat->Prop} {w':World} (h:MapI w b l c) (hk:Keeps S w w') (hb:¬ S b):MapI w' b l c:=(hk.block b h.lt hb).trans h
theorem run_get (h:MapI w b l c):(getObj b).run P w=.ok (.map (l.map entA).toArray c) w:=by
 unfold MapI at h
 simp [getObj,Sem.run,h]
theorem run_key (hk:P.underlying kt=some (.int .i64)) (em:Bool) (k:Int) (W:World):(Instr.checkKey em 10000 kt (.int .i64 k)).run P W=.ok () W:=by
 rw [Instr.checkKey]
 simp only [Sem.run_bind,run_underlying hk,Result.andThen_ok]
 rfl
theorem run_find (hk:P.underlying kt=some (.int .i64)) (k:Int) (W:World):(Instr.findKey kt (.int .i64 k) (l.map entA)).run P W=.ok ((getE l k).map λ v=>(posE l k,v)) W:=by
 simp [Instr.findKey,run_underlying hk,findNow_E]
theorem run_lookup_I (h:MapI w b l c) (ht:P.underlying t=some (.map kt et)) (hk:P.underlying kt=some (.int .i64)) {z:Value} (hz:∀ W,(zeroValue et).run P W=.ok z W) (k:Int) :
  (Instr.lookup t (.map (some b)) (.int .i64 k) true).run P w=.ok (.tuple #[(getE l k).getD z,.bool (getE l k).isSome]) w:=by
 have hf:=run_find (l:=l) hk k w
 generalize getE l k=q at *
 cases q with
 | none =>
  simp only [Option.map_none] at hf
  simp [Instr.lookup,run_underlying ht,run_get h,run_key hk,hf,hz]
 | some v =>
  simp only [Option.map_some] at hf
  simp [Instr.lookup,run_underlying ht,run_get h,run_key hk,hf]
def turn (w:World) (b:Nat) (l:List Ent) (c:Nat):World:={ w with heap:=w.heap.setIfInBounds b (.map (l.map entA).toArray c) }
theorem turn_size (l':List Ent) (c':Nat):(turn w b l' c').heap.size=w.heap.size:=by simp [turn]
theorem MapI.turned (h:MapI w b l c) (l':List Ent) (c':Nat):MapI (turn w b l' c') b l' c':=by
 have:=h.lt
 unfold MapI turn
 simp [this]
theorem turn_keeps {S:Nat->Prop} {w0:World} (hk:Keeps S w0 w) (hb:b<w0.heap.size->S b) (l':List Ent) (c':Nat):Keeps S w0 (turn w b l' c'):=by
 refine ⟨hk.os,hk.tape,hk.output,by rw [turn_size];exact hk.size,λ i hi hn=>?_⟩
 rw [<- hk.block i hi hn]
 exact Array.getElem?_setIfInBounds_ne (λ e=>by subst e;exact hn (hb hi))
theorem MapI.cell_turn (h:MapI w b l c) (l':List Ent) (c':Nat) (a:Addr):(turn w b l' c').cell? a=w.cell? a:=by
 by_cases e:a.block=b
 ·have h1:=h.turned l' c'
  unfold MapI at h h1
  simp only [World.cell?,e,h,h1]
 ·exact World.cell?_of_block (Array.getElem?_setIfInBounds_ne (λ e'=>e e'.symm))
theorem run_set (h:MapI w b l c) (l':List Ent) (c':Nat):(setObj b (.map (l'.map entA).toArray c')).run P w=.ok () (turn w b l' c'):=by
 unfold MapI at h
 simp [setObj,Sem.run,h,turn]
theorem run_update_I (h:MapI w b l c) (ht:P.underlying t=some (.map kt et)) (hk:P.underlying kt=some (.int .i64)) (k:Int) (v:Value) :
  (Instr.mapUpdate t (.map (some b)) (.int .i64 k) v).run P w=.ok () (turn w b (putE l k v c) (clockE l k c)):=by
 have hf:=run_find (l:=l) hk k w
 have hs:=run_set (P:=P) h (putE l k v c) (clockE l k c)
 cases hq:getE l k with
 | none =>
  rw [hq] at hf
  simp only [Option.map_none] at hf
  have e:((l.map entA).toArray.push ⟨.int .i64 k,v,c⟩)=((putE l k v c).map entA).toArray:=by rw [putE_new hq];simp [entA]
  have ec:clockE l k c=c+1:=by simp [clockE,hq]
  rw [ec] at hs ⊢
  simp only [Instr.mapUpdate,Sem.run_bind,run_underlying ht,Result.andThen_ok,run_get h,run_key hk,List.toList_toArray,hf,e,hs]
 | some v0 =>
  rw [hq] at hf
  simp only [Option.map_some] at hf
  obtain ⟨e0,he0,hk0,_⟩:=posE_at hq
  have hold:(l.map entA).toArray[posE l k]? = some (entA e0):=by simp [he0]
  have hbits:Instr.sameBits 10000 (entA e0).key (.int .i64 k)=true:=by simp [Instr.sameBits,entA,hk0]
  have e:((l.map entA).toArray.modify (posE l k) λ x=>{ x with key:=.int .i64 k,val:=v })=((putE l k v c).map entA).toArray:=by
   rw [putE_old hq he0]
   apply Array.toList_inj.1
   rw [Array.toList_modify]
   apply List.ext_getElem?
   intro i
   simp only [List.getElem?_modify,List.getElem?_map,List.getElem?_set,List.toList_toArray]
   by_cases hi:posE l k=i
   ·subst hi
    obtain ⟨hlt,hge⟩:=List.getElem?_eq_some_iff.1 he0
    simp [hlt,entA,hge]
   ·simp [hi]
  have ec:clockE l k c=c:=by simp [clockE,hq]
  rw [ec] at hs ⊢
  simp only [Instr.mapUpdate,Sem.run_bind,run_underlying ht,Result.andThen_ok,run_get h,run_key hk,List.toList_toArray,hf,hold,Option.map_some,Option.getD_some,Instr.keyThatStays,hbits,if_true,Sem.run_pure,e,hs]
theorem run_delete_I (h:MapI w b l c) (ht:P.underlying t=some (.map kt et)) (hk:P.underlying kt=some (.int .i64)) (ty:TypeId) (k:Int) :
  (Builtin.delete_ #[t,kt] ty #[.map (some b),.int .i64 k]).run P w=.ok (.tuple #[]) (turn w b (delE l k) c):=by
 have hf:=run_find (l:=l) hk k w
 have hs:=run_set (P:=P) h (delE l k) c
 cases hq:getE l k with
 | none =>
  rw [hq] at hf
  simp only [Option.map_none] at hf
  rw [delE_new hq] at hs ⊢
  simp [Builtin.delete_,run_underlying ht,run_get h,run_key hk,hf,hs]
 | some v0 =>
  rw [hq] at hf
  simp only [Option.map_some] at hf
  have e:(l.map entA).eraseIdx (posE l k)=(delE l k).map entA:=by rw [delE_old hq,erase_map]
  simp [Builtin.delete_,run_underlying ht,run_get h,run_key hk,hf,e,hs]
end
def keysE (l:List Ent):List Int:=l.map (·.1)
theorem getE_put:∀ (l:List Ent) (k:Int) (v:Value) (c:Nat) (j:Int),getE (putE l k v c) j=if j=k then some v else getE l j
 | [],k,v,c,j=>by
  simp only [putE,getE]
  by_cases h:k=j
  ·rw [if_pos h,if_pos h.symm]
  ·rw [if_neg h,if_neg (λ e=>h e.symm)]
 | e :: l,k,v,c,j=>by
  simp only [putE]
  split
  ·rename_i h
   simp only [getE]
   by_cases h2:k=j
   ·rw [if_pos h2,if_pos h2.symm]
   ·rw [if_neg h2,if_neg (λ e=>h2 e.symm),if_neg (λ e'=>h2 (h.symm.trans e'))]
  ·rename_i h
   simp only [getE,getE_put l k v c j]
   by_cases h2:e.1=j
   ·rw [if_pos h2,if_pos h2,if_neg (λ e'=>h (h2.trans e'))]
   ·rw [if_neg h2,if_neg h2]
theorem keys_put_mem {l:List Ent} {k:Int} {v:Value} {c:Nat} {j:Int}:j∈keysE (putE l k v c)↔j=k\/j∈keysE l:=by
 induction l with
 | nil=>simp [putE,keysE]
 | cons e l ih =>
  simp only [putE]
  split
  ·rename_i h
   subst h
   simp [keysE]
  ·simp only [keysE,List.map_cons,List.mem_cons] at ih ⊢
   rw [ih]
   constructor
   ·rintro (h | h | h)
    ·exact .inr (.inl h)
    ·exact .inl h
    ·exact .inr (.inr h)
   ·rintro (h | h | h)
    ·exact .inr (.inl h)
    ·exact .inl h
    ·exact .inr (.inr h)
theorem nodup_put {l:List Ent} {k:Int} {v:Value} {c:Nat} (h:(keysE l).Nodup):(keysE (putE l k v c)).Nodup:=by
 induction l with
 | nil=>simp [putE,keysE]
 | cons e l ih =>
  have h':=List.nodup_cons.1 (show (e.1 :: keysE l).Nodup from h)
  simp only [putE]
  split
  ·rename_i he
   show (k :: keysE l).Nodup
   rw [<- he]
   exact h
  ·rename_i he
   show (e.1 :: keysE (putE l k v c)).Nodup
   refine List.nodup_cons.2 ⟨λ hm=>?_,ih h'.2⟩
   rcases keys_put_mem.1 hm with h2 | h2
   ·exact he h2
   ·exact h'.1 h2
theorem getE_mem {l:List Ent} {k:Int}:(getE l k).isSome=true↔k∈keysE l:=by
 induction l with
 | nil=>simp [getE,keysE]
 | cons e l ih =>
  simp only [getE,keysE,List.map_cons,List.mem_cons] at ih ⊢
  split
  ·rename_i h;simp [h]
  ·rename_i h
   rw [ih]
   constructor
   ·exact .inr
   ·rintro (h2 | h2)
    ·exact absurd h2.symm h
    ·exact h2
theorem getE_del {l:List Ent} (hn:(keysE l).Nodup) (k j:Int):getE (delE l k) j=if j=k then none else getE l j:=by
 induction l with
 | nil=>simp [delE,getE]
 | cons e l ih =>
  have h':=List.nodup_cons.1 (show (e.1 :: keysE l).Nodup from hn)
  simp only [delE]
  split
  ·rename_i he
   by_cases hj:j=k
   ·rw [if_pos hj,hj]
    cases hq:getE l k with
    | none=>rfl
    | some v=>exact absurd (getE_mem.1 (by rw [hq];rfl)) (he ▸ h'.1)
   ·simp only [getE]
    rw [if_neg hj,if_neg (λ e'=>hj (e'.symm.trans he))]
  ·rename_i he
   simp only [getE]
   rw [ih h'.2]
   by_cases h2:e.1=j
   ·rw [if_pos h2,if_pos h2,if_neg (λ e'=>he (h2.trans e'))]
   ·rw [if_neg h2,if_neg h2]
theorem keys_del_mem {l:List Ent} (hn:(keysE l).Nodup) {k j:Int}:j∈keysE (delE l k)↔j≠k/\j∈keysE l:=by
 rw [<- getE_mem,<- getE_mem,getE_del hn]
 by_cases h:j=k<;>simp [h]
theorem nodup_del {l:List Ent} {k:Int} (h:(keysE l).Nodup):(keysE (delE l k)).Nodup:=by
 induction l with
 | nil=>simp [delE,keysE]
 | cons e l ih =>
  have h':=List.nodup_cons.1 (show (e.1 :: keysE l).Nodup from h)
  simp only [delE]
  split
  ·exact h'.2
  ·show (e.1 :: keysE (delE l k)).Nodup
   exact List.nodup_cons.2 ⟨λ hm=>h'.1 ((keys_del_mem h'.2).1 hm).2,ih h'.2⟩
theorem len_put {l:List Ent} {k:Int} {v:Value} {c:Nat} (h:getE l k=none):(putE l k v c).length=l.length+1:=by rw [putE_new h];simp
theorem len_del {l:List Ent} {k:Int} {v:Value} (h:getE l k=some v):(delE l k).length+1=l.length:=by
 induction l with
 | nil=>cases h
 | cons e l ih =>
  simp only [getE] at h
  simp only [delE]
  split
  ·simp
  ·rename_i he
   rw [if_neg he] at h
   simp [ih h]
def Clk (l:List Ent) (c:Nat):Prop:=(∀ s∈l.map (λ e:Ent=>e.2.2),s<c)/\(l.map (λ e:Ent=>e.2.2)).Nodup
theorem Clk.nil (c:Nat):Clk [] c:=⟨λ s hs=>(by cases hs),List.nodup_nil⟩
theorem del_stamps (l:List Ent) (k:Int):((delE l k).map (λ e:Ent=>e.2.2)).Sublist (l.map (λ e:Ent=>e.2.2)):=by
 induction l with
 | nil=>exact List.Sublist.refl _
 | cons e l ih =>
  simp only [delE]
  split
  ·exact List.sublist_cons_self _ _
  ·simp only [List.map_cons]
   exact ih.cons_cons _
theorem put_stamps {l:List Ent} {k:Int} {v v0:Value} {c:Nat} (h:getE l k=some v0):(putE l k v c).map (λ e:Ent=>e.2.2)=l.map (λ e:Ent=>e.2.2):=by
 induction l with
 | nil=>cases h
 | cons e l ih =>
  simp only [getE] at h
  simp only [putE]
  split
  ·rfl
  ·rename_i he
   rw [if_neg he] at h
   simp only [List.map_cons,ih h]
theorem Clk.del {l:List Ent} {c:Nat} (h:Clk l c) (k:Int):Clk (delE l k) c:=⟨λ s hs=>h.1 s ((del_stamps l k).mem hs),(del_stamps l k).nodup h.2⟩
theorem Clk.put {l:List Ent} {c:Nat} (h:Clk l c) (k:Int) (v:Value):Clk (putE l k v c) (clockE l k c):=by
 unfold clockE
 cases hg:getE l k with
 | none =>
  rw [putE_new hg]
  refine ⟨λ s hs=>?_,?_⟩
  ·rw [List.map_append,List.mem_append] at hs
   rcases hs with hs | hs
   ·have:=h.1 s hs
    show s<c+1
    omega
   ·simp only [List.map_cons,List.map_nil,List.mem_singleton] at hs
    subst hs
    exact Nat.lt_succ_self _
  ·rw [List.map_append]
   refine List.nodup_append.2 ⟨h.2,by simp,λ a ha b hb e=>?_⟩
   simp only [List.map_cons,List.map_nil,List.mem_singleton] at hb
   have:=h.1 a ha
   omega
 | some v0 =>
  unfold Clk
  rw [put_stamps hg]
  exact h
end Go.Ev
namespace Go.Ev
def strB (s:Bytes):Value:=.string ⟨s.toArray⟩
def pgV (x:Pg):Value:=.agg #[.int .i64 x.kind,.int .i64 x.next,strB x.body]
structure PgInv (n:Nat) (made was:List Ent) (spare:List Int):Prop where
 nodM:(keysE made).Nodup
 nodW:(keysE was).Nodup
 nodS:spare.Nodup
 wasS:∀ k,k∈keysE was↔k∈spare
 cover:∀ k,(2<=k/\k<(n:Int))↔(k∈keysE made\/k∈spare)
 disj:∀ k,k∈keysE made->k ∉ spare
 pages:∀ k v,getE made k=some v->∃ x,v=pgV x
 two:2<=n
 wasV:∀ k v,getE was k=some v->v=.agg #[]
def Pages (made:List Ent) (M:Store):Prop:=∀ k,getE made k=(M k).map pgV
def updS (M:Store) (k:Int) (x:Option Pg):Store:=λ i=>if i=k then x else M i
section
variable {n:Nat} {made was:List Ent} {spare:List Int} {M:Store}
theorem Pages.key (h:Pages made M) (k:Int):k∈keysE made↔(M k).isSome=true:=by
 rw [<- getE_mem,h k]
 simp
theorem range_len:∀ (m:Nat) (l:List Int) (a:Int),l.Nodup->(∀ k,(a<=k/\k<a+m)↔k∈l)->l.length=m
 | 0,l,a,_,h=>by
  cases l with
  | nil=>rfl
  | cons x l=>have:=(h x).2 (List.mem_cons_self ..);omega
 | m+1,l,a,hn,h=>by
  have ha:a∈l:=(h a).1 (by omega)
  have hp:=List.perm_cons_erase ha
  have hn2:(l.erase a).Nodup:=hn.erase a
  have:=range_len m (l.erase a) (a+1) hn2 λ k=>by
   rw [hn.mem_erase_iff]
   constructor
   ·intro hk
    exact ⟨by omega,(h k).1 (by omega)⟩
   ·rintro ⟨h1,h2⟩
    have:=(h k).2 h2
    omega
  rw [hp.length_eq,List.length_cons,this]
theorem keysE_len (l:List Ent):(keysE l).length=l.length:=by simp [keysE]
theorem PgInv.count (h:PgInv n made was spare):made.length+spare.length+2=n:=by
 have hn:(keysE made++spare).Nodup:=List.nodup_append.2 ⟨h.nodM,h.nodS,λ a ha b hb e=>h.disj a ha (e ▸ hb)⟩
 have:=range_len (n-2) (keysE made++spare) 2 hn λ k=>by
  rw [List.mem_append,<- h.cover]
  have:=h.two
  constructor<;>intro hk<;>omega
 rw [List.length_append,keysE_len] at this
 have:=h.two
 omega
theorem PgInv.make_spare {x:Int} {spare':List Int} (h:PgInv n made was (x :: spare)) (hp:spare'.Perm spare) (v:Pg) (c:Nat):PgInv n (putE made x (pgV v) c) (delE was x) spare'/\getE made x=none:=by
 have hx:x ∉ keysE made:=λ hm=>h.disj x hm (List.mem_cons_self ..)
 have hn:=List.nodup_cons.1 h.nodS
 have hg:getE made x=none:=by
  cases hq:getE made x with
  | none=>rfl
  | some v=>exact absurd (getE_mem.1 (by rw [hq];rfl)) hx
 refine ⟨⟨nodup_put h.nodM,nodup_del h.nodW,hp.nodup_iff.2 hn.2,λ k=>?_,λ k=>?_,λ k hk=>?_,λ k u hu=>?_,h.two,λ k v hv=>?_⟩,hg⟩
 ·rw [keys_del_mem h.nodW,h.wasS,hp.mem_iff,List.mem_cons]
  constructor
  ·rintro ⟨h1,h2 | h2⟩
   ·exact absurd h2 h1
   ·exact h2
  ·intro h2
   exact ⟨λ e=>hn.1 (e ▸ h2),.inr h2⟩
 ·rw [h.cover,keys_put_mem,hp.mem_iff,List.mem_cons]
  constructor
  ·rintro (h1 | h1 | h1)
   ·exact .inl (.inr h1)
   ·exact .inl (.inl h1)
   ·exact .inr h1
  ·rintro ((h1 | h1) | h1)
   ·exact .inr (.inl h1)
   ·exact .inl h1
   ·exact .inr (.inr h1)
 ·rw [hp.mem_iff]
  rcases keys_put_mem.1 hk with rfl | hk
  ·exact hn.1
  ·exact λ hs=>h.disj k hk (List.mem_cons_of_mem _ hs)
 ·rw [getE_put] at hu
  split at hu
  ·cases hu;exact ⟨_,rfl⟩
  ·exact h.pages k u hu
 ·rw [getE_del h.nodW] at hv
  split at hv
  ·cases hv
  ·exact h.wasV k v hv
theorem PgInv.make_new (h:PgInv n made was []) (v:Pg) (c:Nat):PgInv (n+1) (putE made n (pgV v) c) (delE was n) []/\getE made n=none:=by
 have hx:(n:Int) ∉ keysE made:=λ hm=>by
  have:=(h.cover n).2 (.inl hm)
  omega
 have hg:getE made n=none:=by
  cases hq:getE made n with
  | none=>rfl
  | some v=>exact absurd (getE_mem.1 (by rw [hq];rfl)) hx
 have hw:delE was n=was:=delE_new (by
  cases hq:getE was n with
  | none=>rfl
  | some v=>have:=(h.wasS n).1 (getE_mem.1 (by rw [hq];rfl));cases this)
 rw [hw]
 refine ⟨⟨nodup_put h.nodM,h.nodW,List.nodup_nil,h.wasS,λ k=>?_,λ k _=>by simp,λ k u hu=>?_,by have:=h.two;omega,h.wasV⟩,hg⟩
 ·rw [keys_put_mem]
  have:=h.cover k
  have h2:=h.two
  simp only [List.not_mem_nil,or_false] at this ⊢
  constructor
  ·intro hk
   by_cases e:k=n
   ·exact .inl e
   ·exact .inr (this.1 (by omega))
  ·rintro (rfl | hk)
   ·omega
   ·have:=this.2 hk;omega
 ·rw [getE_put] at hu
  split at hu
  ·cases hu;exact ⟨_,rfl⟩
  ·exact h.pages k u hu
theorem PgInv.drop {x:Int} {spare':List Int} {v:Value} (h:PgInv n made was spare) (hx:getE made x=some v) (hp:spare'.Perm (x :: spare)) (c:Nat):PgInv n (delE made x) (putE was x (.agg #[]) c) spare':=by
 have hk:x∈keysE made:=getE_mem.1 (by rw [hx];rfl)
 have hs:=h.disj x hk
 refine ⟨nodup_del h.nodM,nodup_put h.nodW,hp.nodup_iff.2 (List.nodup_cons.2 ⟨hs,h.nodS⟩),λ k=>?_,λ k=>?_,λ k hm=>?_,λ k u hu=>?_,h.two,λ k v hv=>?_⟩
 ·rw [keys_put_mem,hp.mem_iff,List.mem_cons,h.wasS]
 ·rw [h.cover,keys_del_mem h.nodM,hp.mem_iff,List.mem_cons]
  constructor
  ·rintro (h1 | h1)
   ·by_cases e:k=x
    ·exact .inr (.inl e)
    ·exact .inl ⟨e,h1⟩
   ·exact .inr (.inr h1)
  ·rintro (⟨_,h1⟩ | h1 | h1)
   ·exact .inl h1
   ·exact .inl (h1 ▸ hk)
   ·exact .inr h1
 ·rw [hp.mem_iff,List.mem_cons]
  have:=(keys_del_mem h.nodM).1 hm
  rintro (h1 | h1)
  ·exact this.1 h1
  ·exact h.disj k this.2 h1
 ·rw [getE_del h.nodM] at hu
  split at hu
  ·cases hu
  ·exact h.pages k u hu
 ·rw [getE_put] at hv
  split at hv
  ·cases hv;rfl
  ·exact h.wasV k v hv
theorem Pages.put (h:Pages made M) (x:Int) (v:Pg) (c:Nat):Pages (putE made x (pgV v) c) (updS M x (some v)):=λ k=>by
 rw [getE_put,h k]
 unfold updS
 split<;>rfl
theorem Pages.del (h:Pages made M) (hn:(keysE made).Nodup) (x:Int):Pages (delE made x) (updS M x none):=λ k=>by
 rw [getE_del hn,h k]
 unfold updS
 split<;>rfl
end
open Go.RowKit
variable {P:Program} {l n:Nat}
abbrev wideR (l:Nat):Fence:=Fence.wide.inRound l
theorem calls_round {f:FuncId} {args:Array Value} {w:World} {R:Ending->World->Prop} (h:Calls P f args w R):CallsIn (wideR l) n P f args w R:=CallsIn.inRound l (callsIn_wide.2 h)
theorem rows_round {row:String} {args:Array Value} {w:World} {R:Value->World->Prop} (h:Rows P row args w R):RowsIn (wideR l) n P row args w R:=λ c cs _ =>
 let ⟨v,w',r,s⟩:=h c cs
 ⟨v,w',r,stepsIn_wide.2 s⟩
theorem oper_round {o:Oper} {a:Act} {w:World} {K:Act->World->Prop} {Q:Exit->Act->World->Prop} (hd:∀ c,o.op≠.defer c) (h:o.wp P a w K Q):o.wpIn (wideR l) n P a w K Q:=by
 refine ⟨λ _ _=>trivial,?_⟩
 rw [Oper.semAt_eq _ _ _ hd]
 unfold Oper.wp at h
 generalize (execOp a.eval o).run P w=r at *
 cases r with
 | ok x w' =>
  cases x<;>simp only [Oper.upon,Oper.uponIn] at h ⊢
  case value v=>exact h
  case skip=>exact h
  case defer d=>exact h
  case enter f args=>exact ⟨(λ e=>(by cases e)),calls_round h⟩
  case row row args=>exact ⟨(λ e=>(by cases e)),rows_round h⟩
 | halt x w'=>cases x<;>simp only [Oper.upon,Oper.uponIn] at h ⊢;exact h
theorem op_round {ops:Array Oper} {Q:Exit->Act->World->Prop} {i:Nat} {K K':Act->World->Prop} {a:Act} {w:World} (hd:∀ (i:Nat) (o:Oper) c,ops[i]? = some o->o.op≠.defer c) (hQ:¬ LetsOut Q) (hK:∀ a w,K a w->K' a w) (h:wpOp P ops Q i K a w):wpOpIn (wideR l) n P ops Q i K' a w:=by
 unfold wpOp at h
 unfold wpOpIn
 split
 ·rename_i ho
  simp only [ho] at h
  exact hK _ _ h
 ·rename_i o ho
  simp only [ho] at h
  split
  ·rename_i hw
   simp only [hw,if_true] at h
   rcases h with h | h
   ·exact Oper.wpIn_mono hK (oper_round (λ c=>hd i o c ho) h)
   ·exact absurd h.2 hQ
  ·rename_i hw
   simp only [hw] at h
   exact ⟨λ _ _=>trivial,hK _ _ h⟩
theorem any_round {ops:Array Oper} {Q:Exit->Act->World->Prop} {md:Region.Mode} (hd:∀ (i:Nat) (o:Oper) c,ops[i]? = some o->o.op≠.defer c) (hQ:¬ LetsOut Q):∀ (fuel:Nat) (listed:Array Bool) (a:Act) (w:World),wpAny P md ops Q fuel listed a w->wpAnyIn (wideR l) n P md ops Q fuel listed a w
 | 0,_,_,_,h=>h
 | fuel+1,listed,a,w,h=>⟨h.1,λ i hi=>op_round hd hQ (λ a w=>any_round hd hQ fuel _ a w) (h.2 i hi)⟩
def noDefer (ops:Array Oper):Bool:=ops.all λ o=>match o.op with | .defer _=>false | _=>true
theorem noDefer_spec {ops:Array Oper} (h:noDefer ops=true):∀ (i:Nat) (o:Oper) c,ops[i]? = some o->o.op≠.defer c:=by
 intro i o c ho e
 unfold noDefer at h
 rw [Array.all_eq_true'] at h
 have:=h o (Array.mem_of_getElem? ho)
 rw [e] at this
 cases this
theorem region_round {id:Nat} {ops:Array Oper} {Q:Exit->Act->World->Prop} {a:Act} {w:World} (hm:P.follows .mixedOrders=true) (hd:noDefer ops=true) (hQ:¬ LetsOut Q)
  (h:wpAny P .any ops Q ops.size (Array.replicate ops.size false) a w.drew):(Code.region id ops true).wpIn (wideR l) n P Q a w:=
 wpIn_region_any hm (any_round (noDefer_spec hd) hQ _ _ _ _ h)
variable {F:Fence} {n:Nat} {P:Program}
def Each {α:Type} (F:Fence) (n:Nat) (P:Program) (g:Nat) (lb:Array Value) (encs:α->Array Value) (Kp:World->World->Prop) (xs:List α) (w:World):Prop:=
 ∀ (l:Nat) (J:Nat->World->Prop) (W:World),Below w.heap.size w W →
  (∀ (k:Nat) (x:α) (W1:World),xs[k]? = some x->J k W1->YieldAt F (n-1) P l (encs x) W1 λ e W'=>e=.returned (.bool true)/\J (k+1) W'/\Kp W1 W') →
  J 0 W->CallsIn F n P g (#[.func (.yield l) #[] #[]]++lb) W λ e W'=>(∃ v,e=.returned v)/\J xs.length W'
def goesOn (B:Nat) (Kp:World->World->Prop) (I:World->Prop) (W:World):Exit->Act->World->Prop
 | .normal,_,W'=>KeepsFrom B W W'/\Kp W W'/\I W'
 | _,_,_=>False
theorem rangeFunc_each {α:Type} {g:Operand} {ps:Array Tmp} {assign body:Code} {Q:Exit->Act->World->Prop} {a:Act} {w:World} {gf:Nat} {lb:Array Value} {encs:α->Array Value} {Kp:World->World->Prop} {xs:List α}
  (hro:F.round=none) (h1:1<=n) (hg:a.eval g=.func (.func gf) #[] lb) (hF:F.fn gf) (eg:∀ args w,(callFunc gf args).run P w=.ok (.enter gf args) w) (hseq:Each F (n-1) P gf lb encs Kp xs w)
  (hKt:∀ {A B C:World},Kp A B->Kp B C->Kp A C) (hKb:∀ (W:World) (l:Nat) (o o':Obj),w.heap.size<=l->W.heap[l]? = some o->o.isCells=false->o.isWalk=false->Kp W (W.putObj l o')) (hps:∀ x,(encs x).size=ps.size)
  (I:Nat->World->Prop) (hI:OwnFrom w.heap.size I) (h0:I 0 w) (Ax:α->Act->World->Prop) (hAx:∀ x a',OwnFrom w.heap.size (λ (_:Unit) W=>Ax x a' W))
  (hassign:∀ (l k:Nat) (x:α) (W:World) (K:Act->World->Prop),xs[k]? = some x->I k W->(∀ a' W',KeepsFrom w.heap.size W W'->Kp W W'->I k W'->Ax x a' W'->K a' W') →
   assign.wpIn (F.inRound l) (n-1-1) P (Exit.then K (λ _ _ _=>False)) { tmps:=(ps.zip (encs x)).foldl (λ t (p,v)=>t.setIfInBounds p v) a.tmps,defers:=[] } W)
  (hbody:∀ (l k:Nat) (x:α) (a':Act) (W:World),xs[k]? = some x->I k W->Ax x a' W->body.wpIn (F.inRound l) (n-1-1) P (goesOn w.heap.size Kp (I (k+1)) W) a' W)
  (hdone:∀ (D:Nat) (W:World),w.heap.size<=D->I xs.length W->W.heap[D]? = some (.deferred (some []))->Q .normal { a with defers:={ target:=.collected D,args:=#[] } :: a.defers } W) :
  (Code.rangeFunc g ps assign body).wpIn F n P Q a w:=by
 refine wpIn_rangeFunc λ fn hfn=>?_
 rw [hro]
 -- the loop's record in its states; the block of the deferred calls is D, the record's is D + 1
 obtain ⟨D,hD⟩:∃ D,D=w.heap.size:=⟨_,rfl⟩
 obtain ⟨R,hR⟩:∃ R:LoopState->Loop,R=λ st=>{ state:=st,pending:=none,fn,tmps:=a.tmps,params:=ps,assign,body,defers:=D }:=⟨_,rfl⟩
 obtain ⟨W1,hW1⟩:=nmz ((w.alloc (.deferred (some []))).alloc (.loop (R .ready)))
 have hl1:W1.heap[D+1]? = some (.loop (R .ready)):=by
  have:=World.alloc_heap_new (w.alloc (.deferred (some []))) (.loop (R .ready))
  rw [World.size_alloc,hW1] at this
  rw [hD];exact this
 have hd1:W1.heap[D]? = some (.deferred (some [])):=by
  rw [<- hW1,hD];exact (Below.heap_alloc _ _ _ (by simp)).trans (World.alloc_heap_new w _)
 have hi1:I 0 W1:=by rw [<- hW1];exact hI.alloc _ (hI.alloc _ h0)
 have hb1:Below w.heap.size w W1:=by rw [<- hW1];exact ((Below.refl _ w).alloc (Nat.le_refl _) _).alloc (by simp) _
 refine ⟨D+1,[{ target:=.collected D,args:=#[] }],W1,{ target:=.fn (.func gf) lb,args:=#[.func (.yield (D+1)) #[] #[]] },W1,gf,#[.func (.yield (D+1)) #[] #[]]++lb,W1,?_,?_,?_,?_,λ _=>h1,?_⟩
 ·rw [<- hW1,hR,hD];exact run_enterLoop_outer _ _ _ _ _
 ·simp only [resolve,hg]
  simp [go_sem]
 ·intro f' hf';simp [Target.leads] at hf';subst hf';exact hF
 ·simp [invoke,go_sem,eg]
 refine (hseq (D+1) (λ k W=>I k W/\W.heap[D+1]? = some (.loop (R .ready))/\W.heap[D]? = some (.deferred (some []))) W1 hb1 ?_ ⟨hi1,hl1,hd1⟩).mono ?_
 ·-- a round
  rintro k x W hx ⟨hi,hl,hd⟩
  have hy:=run_yield (P:=P) (args:=encs x) hl (by rw [hR];exact hps x)
  rw [hR] at hy
  refine ⟨fn,_,assign,body,hy,roundIn_of_wpIn hfn (hassign _ k x W _ hx hi ?_)⟩
  intro a' Wa hka hpa hia hax
  have hla:=hka.same _ _ (by omega) hl rfl
  have hda:=hka.same _ _ (by omega) hd rfl
  have hlta:D+1<Wa.heap.size:=(Array.getElem?_eq_some_iff.1 hla).1
  refine ⟨_,run_beginRound hla (by rw [hR]),?_⟩
  have hlb:(Wa.putObj (D+1) (.loop { R .ready with state:=.busy })).heap[D+1]? = some (.loop { R .ready with state:=.busy }):=World.putObj_heap_same hlta
  have hdb:(Wa.putObj (D+1) (.loop { R .ready with state:=.busy })).heap[D]? = some (.deferred (some [])):=(World.putObj_heap_other (by omega)).trans hda
  have hpb:Kp Wa (Wa.putObj (D+1) (.loop { R .ready with state:=.busy })):=hKb _ _ _ _ (by omega) hla rfl rfl
  refine wpIn_mono (hbody _ k x a' _ hx (hI.putObj _ hia (by omega) hla rfl) ((hAx x a').putObj (s:=()) _ hax (by omega) hla rfl)) ?_
  rintro e a3 W3 hp
  cases e with
  | normal =>
   obtain ⟨hk3,hp3,hi3⟩:=hp
   have hl3:=hk3.same _ _ (by omega) hlb rfl
   have hd3:=hk3.same _ _ (by omega) hdb rfl
   have hr:=run_endRound (P:=P) none hl3
   rw [hR] at hr hl3
   refine ⟨_,_,hr,rfl,⟨hI.putObj _ hi3 (by omega) hl3 rfl,?_,(World.putObj_heap_other (by omega)).trans hd3⟩,hKt hpa (hKt (hKt hpb hp3) (hKb _ _ _ _ (by omega) hl3 rfl rfl))⟩
   rw [World.putObj_heap_same (Array.getElem?_eq_some_iff.1 hl3).1,hR]
   rfl
  | ret=>exact hp.elim
  | exit id=>exact hp.elim
  | goto t=>exact hp.elim
  | panic ch=>exact hp.elim
  | outgrown=>exact hp.elim
 ·-- behind the iterator
  rintro e W2 ⟨⟨v,rfl⟩,hi,hl,hd⟩
  have hr:=run_endLoop (P:=P) hl (by rw [hR];simp)
  rw [hR] at hr
  exact ⟨none,_,hr,hdone D _ (by omega) (hI.putObj _ hi (by omega) hl rfl) ((World.putObj_heap_other (by omega)).trans hd)⟩
end Go.Ev
