/-
  Texts of this claim.
-/
import Derived.Test.YtmfoiaaehkandaaGreatDoorMBEvBytes
import Derived.Test.YtmfoiaaehkandaaGreatDoorMBEvLayB
import Derived.Test.YtmfoiaaehkandaaGreatDoorMBGvNum
import Derived.Deep.DeepMust
import Derived.Lib.VarintBits
set_option linter.unusedVariables false
set_option linter.unusedSimpArgs false
set_option maxHeartbeats 2000000
set_option maxRecDepth 100000
namespace Go.Ev
def Lasts (w w':World):Prop:=w.heap.size<=w'.heap.size/\∀ k,k<w.heap.size->w'.heap[k]? = w.heap[k]?
theorem Lasts.refl (w:World):Lasts w w:=⟨Nat.le_refl _,λ _ _=>rfl⟩
theorem Lasts.trans {a b c:World} (h:Lasts a b) (k:Lasts b c):Lasts a c:=⟨Nat.le_trans h.1 k.1,λ i hi=>(k.2 i (Nat.lt_of_lt_of_le hi h.1)).trans (h.2 i hi)⟩
theorem Lasts.cell {w w':World} (h:Lasts w w') {p:Addr} {v:Value} (hc:w.cell? p=some v):w'.cell? p=some v:=by
 have hlt:p.block<w.heap.size:=by
  unfold World.cell? at hc
  cases hb:w.heap[p.block]? with
  | none=>simp [hb] at hc
  | some x=>exact (Array.getElem?_eq_some_iff.1 hb).1
 have e:w'.cell? p=w.cell? p:=by
  unfold World.cell?
  rw [h.2 _ hlt]
 rw [e]
 exact hc
def Tame {α:Type}:Sem α->Prop
 | .pure _=>True
 | .load _ _ k=>∀ v,Tame (k v)
 | .store .. => False
 | .new _ k=>∀ r,Tame (k r)
 | .shape _ k=>∀ s,Tame (k s)
 | .freeze .. => False
 | .frozen _ k=>∀ b,Tame (k b)
 | .getObj _ k=>∀ o,Tame (k o)
 | .setObj .. => False
 | .choose _ k=>∀ n,Tame (k n)
 | .sys .. => False
 | .program k=>∀ p,Tame (k p)
 | .mark _ k=>Tame k
 | .halt _=>True
theorem Tame.bind' {α β:Type} {f:α->Sem β}:∀ (s:Sem α),Tame s->(∀ x,Tame (f x))->Tame (Sem.bind s f)
 | .pure _,_,hf=>hf _
 | .load _ _ k,h,hf=>λ v=>Tame.bind' (k v) (h v) hf
 | .store ..,h,_=>h.elim
 | .new _ k,h,hf=>λ v=>Tame.bind' (k v) (h v) hf
 | .shape _ k,h,hf=>λ v=>Tame.bind' (k v) (h v) hf
 | .freeze ..,h,_=>h.elim
 | .frozen _ k,h,hf=>λ v=>Tame.bind' (k v) (h v) hf
 | .getObj _ k,h,hf=>λ v=>Tame.bind' (k v) (h v) hf
 | .setObj ..,h,_=>h.elim
 | .choose _ k,h,hf=>λ v=>Tame.bind' (k v) (h v) hf
 | .sys ..,h,_=>h.elim
 | .program k,h,hf=>λ v=>Tame.bind' (k v) (h v) hf
 | .mark _ k,h,hf=>Tame.bind' k h hf
 | .halt _,_,_=>trivial
theorem Tame.bind {α β:Type} {s:Sem α} {f:α->Sem β} (h:Tame s) (hf:∀ x,Tame (f x)):Tame (s >>= f):=Tame.bind' s h hf
theorem Tame.pure {α:Type} (x:α):Tame (Pure.pure x:Sem α):=trivial
theorem Tame.run {α:Type} {P:Program}:∀ (s:Sem α),Tame s->∀ (w w':World) (x:α),s.run P w=.ok x w'->Lasts w w'
 | .pure _,_,w,w',x,h=>by cases h;exact Lasts.refl _
 | .load m a k,ht,w,w',x,h=>by
  simp only [Sem.run] at h
  split at h
  ·exact Tame.run (k _) (ht _) _ _ _ h
  ·split at h
   ·exact Tame.run (k _) (ht _) _ _ _ h
   ·cases h
 | .store ..,ht,_,_,_,_=>ht.elim
 | .new o k,ht,w,w',x,h=>by
  simp only [Sem.run] at h
  refine Lasts.trans ⟨by simp,λ i hi=>?_⟩ (Tame.run (k _) (ht _) _ _ _ h)
  simp only [Array.getElem?_push]
  rw [if_neg (by omega)]
 | .shape _ k,ht,w,w',x,h=>Tame.run (k _) (ht _) _ _ _ h
 | .freeze ..,ht,_,_,_,_=>ht.elim
 | .frozen _ k,ht,w,w',x,h=>Tame.run (k _) (ht _) _ _ _ h
 | .getObj r k,ht,w,w',x,h=>by
  simp only [Sem.run] at h
  split at h
  ·cases h
  ·exact Tame.run (k _) (ht _) _ _ _ h
  ·cases h
 | .setObj ..,ht,_,_,_,_=>ht.elim
 | .choose q k,ht,w,w',x,h=>by
  simp only [Sem.run] at h
  split at h
  ·exact Tame.run (k _) (ht _) _ _ _ h
  ·exact (show Lasts w { w with drawn:=w.drawn+1 } from ⟨Nat.le_refl _,λ _ _=>rfl⟩).trans (Tame.run (k _) (ht _) _ _ _ h)
 | .sys ..,ht,_,_,_,_=>ht.elim
 | .program k,ht,w,w',x,h=>Tame.run (k _) (ht _) _ _ _ h
 | .mark _ k,ht,w,w',x,h=>Tame.run k ht _ _ _ h
 | .halt _,_,_,_,_,h=>by cases h
theorem tame_bounds {α:Type} (k:IntKind) (i l:Int) (c:BoundsCode):Tame (Go.boundsPanic k i l c:Sem α):=by
 have hj:∀ s,Tame (Go.runtimePanic (.bounds (IntKind.i64.wrap i) l s c):Sem α):=λ s=>by
  unfold Go.runtimePanic
  exact Tame.bind (s:=Go.program) (λ _=>trivial) λ p=>trivial
 unfold Go.boundsPanic
 dsimp only
 split
 ·exact Tame.bind (Tame.bind' (s:=Go.choose _) (λ _=>trivial) λ _=>trivial) hj
 ·exact Tame.bind trivial hj
theorem Tame.underlying (t:TypeId):Tame (Go.underlying t):=by
 unfold Go.underlying
 refine Tame.bind (λ _=>trivial) λ p=>?_
 split<;>trivial
theorem Tame.typeInfo (t:TypeId):Tame (Go.typeInfo t):=by
 unfold Go.typeInfo
 refine Tame.bind (λ _=>trivial) λ p=>?_
 split<;>trivial
theorem Tame.zeroValue (t:TypeId):Tame (Go.zeroValue t):=by
 unfold Go.zeroValue
 refine Tame.bind (Tame.typeInfo t) λ i=>?_
 split<;>trivial
theorem Tame.sizeOf (t:TypeId):Tame (Go.sizeOf t):=Tame.bind (Tame.typeInfo t) λ _=>trivial
theorem Tame.isAgg (t:TypeId):Tame (Go.isAgg t):=by
 refine Tame.bind (Tame.underlying t) λ d=>?_
 split<;>trivial
theorem Tame.load (a:Addr):Tame (Go.load a):=λ _=>trivial
theorem Tame.loadCellsFrom (a:Addr):∀ (n i:Nat) (acc:Array Value),Tame (Go.loadCellsFrom a i n acc)
 | 0,_,_=>trivial
 | n+1,i,acc=>Tame.bind (Tame.load _) λ _=>Tame.loadCellsFrom a n _ _
theorem Tame.loadVar (t:TypeId) (a:Addr):Tame (Go.loadVar t a):=by
 unfold Go.loadVar
 refine Tame.bind (Tame.isAgg t) λ b=>?_
 split
 ·refine Tame.bind (Tame.sizeOf t) λ n=>Tame.bind ?_ λ _=>trivial
  exact Tame.loadCellsFrom _ _ _ _
 ·exact Tame.load _
theorem Tame.sureAddr (v:Value):Tame (Instr.sureAddr v):=by
 unfold Instr.sureAddr
 split<;>trivial
theorem Tame.loadAt (t:TypeId) (v:Value):Tame (Instr.loadAt t v):=Tame.bind (Tame.sureAddr v) λ _=>Tame.loadVar _ _
theorem Tame.newVar (t:TypeId) (v:Value):Tame (Go.newVar t v):=Tame.bind (λ _=>trivial) λ _=>trivial
theorem Tame.alloc (t:TypeId):Tame (Instr.alloc t true (.tuple #[])):=by
 unfold Instr.alloc
 refine Tame.bind (Tame.zeroValue t) λ z=>?_
 dsimp only
 exact Tame.bind (Tame.newVar _ _) λ _=>trivial
theorem Tame.asIntOf (v:Value):Tame (Go.asIntOf v):=by
 unfold Go.asIntOf
 split<;>trivial
theorem Tame.indexAt (t:TypeId) (x i:Value):Tame (Instr.indexAt t x i):=by
 unfold Instr.indexAt
 refine Tame.bind (Tame.asIntOf i) λ ki=>?_
 refine Tame.bind (Tame.underlying t) λ d=>?_
 have hj:∀ r:Option Addr × Nat × TypeId,Tame (match r with
   | (base,len,elem)=>do
    let __do_lift <- Go.underlying t
    have tiny:Bool:=
     decide (len<=1) &&
      match __do_lift with
      | TypeDesc.array len elem=>true
      | x=>false
    match base with
     | some a =>
      if 0<=ki.snd/\ki.snd < ↑len then do
       let __do_lift <- Go.sizeOf elem
       Pure.pure (Value.pointer (some (a.add (ki.snd.toNat*__do_lift))))
      else
       if tiny=true then
        unsupported
         (Unsupported.noEntry "op/indexAddr.an index out of range at an array of length 0 or 1 (ledger 616)")
       else Go.boundsPanic ki.fst ki.snd (↑len) BoundsCode.index
     | none=>Go.boundsPanic ki.fst ki.snd 0 BoundsCode.index:Sem Value):=by
  rintro ⟨base,len,elem⟩
  refine Tame.bind (Tame.underlying t) λ d=>?_
  dsimp only
  split
  ·split
   ·exact Tame.bind (Tame.sizeOf _) λ _=>trivial
   ·split<;>(split<;>first | exact tame_bounds .. | exact trivial)
  ·exact tame_bounds ..
 dsimp only
 split
 ·exact Tame.bind (Tame.sureAddr _) λ _=>Tame.bind trivial hj
 ·exact Tame.bind trivial hj
 ·exact Tame.bind trivial hj
theorem Tame.newRow (t:TypeId) (cs:Array Value):Tame (Go.newRow t cs):=Tame.bind (λ _=>trivial) λ _=>trivial
theorem Tame.box (t:TypeId) (v:Value):Tame (Instr.box t v):=Tame.bind (Tame.newVar _ _) λ _=>trivial
theorem Tame.buildSlice (t:TypeId) (n:Nat) (ps:Array (Nat × Value)):Tame (Instr.buildSlice t n ps):=by
 unfold Instr.buildSlice
 refine Tame.bind (Tame.underlying t) λ d=>?_
 dsimp only
 split
 ·refine Tame.bind (Tame.sizeOf _) λ n=>?_
  rename_i elem
  split
  ·exact trivial
  ·split
   ·refine Tame.bind (Tame.pure _) λ z=>?_
    split
    ·exact Tame.bind (Tame.newRow _ _) λ _=>trivial
    ·exact trivial
   ·refine Tame.bind (Tame.zeroValue _) λ z=>?_
    refine Tame.bind (Tame.pure _) λ z=>?_
    split
    ·exact Tame.bind (Tame.newRow _ _) λ _=>trivial
    ·exact trivial
 ·exact trivial
theorem Tame.getObj' {α:Type} (r:Nat) (k:Obj->Sem α) (h:∀ o,Tame (k o)):Tame (Go.getObj r >>= k):=Tame.bind (λ _=>trivial) h
theorem Tame.len (ts:Array TypeId) (t:TypeId) (args:Array Value):Tame (Builtin.len_ ts t args):=by
 unfold Builtin.len_
 split
 ·refine Tame.bind (Tame.underlying _) λ d=>?_
  split<;>first
   | trivial
   | (refine Tame.bind (Tame.underlying _) λ d=>?_;split<;>trivial)
   | (refine Tame.getObj' _ _ λ o=>?_;split<;>trivial)
 ·trivial
def lenCall (c:Call):Bool:=match c.callee with | .builtin .len=>true | _=>false
def tameOp (o:Oper):Bool:=
 match o.op with
 | .move _ | .assign _ | .load .. | .alloc _ | .indexAddr .. | .box .. | .buildSlice .. => true
 | .call c=>lenCall c
 | _=>false
theorem run_pure_image {α β:Type} {P:Program} {g:α->β}:∀ (s:Sem α) (w w':World) (x:β),(Sem.bind s λ y=>Sem.pure (g y)).run P w=.ok x w'->∃ u,x=g u
 | .pure y,w,w',x,h=>by cases h;exact ⟨_,rfl⟩
 | .load m a k,w,w',x,h=>by
  simp only [Sem.run,Sem.bind] at h
  split at h
  ·exact run_pure_image (k _) _ _ _ h
  ·split at h
   ·exact run_pure_image (k _) _ _ _ h
   ·cases h
 | .store m a v k,w,w',x,h=>by
  simp only [Sem.bind] at h
  cases v<;>simp only [Sem.run] at h<;>first | cases h | skip
  all_goals
   split at h
   ·split at h
    ·cases h
    ·exact run_pure_image k _ _ _ h
   ·split at h
    ·exact run_pure_image k _ _ _ h
    ·cases h
 | .new o k,w,w',x,h=>run_pure_image (k _) _ _ _ h
 | .shape _ k,w,w',x,h=>run_pure_image (k _) _ _ _ h
 | .freeze _ _ k,w,w',x,h=>run_pure_image k _ _ _ h
 | .frozen _ k,w,w',x,h=>run_pure_image (k _) _ _ _ h
 | .getObj r k,w,w',x,h=>by
  simp only [Sem.run,Sem.bind] at h
  split at h
  ·cases h
  ·exact run_pure_image (k _) _ _ _ h
  ·cases h
 | .setObj r o k,w,w',x,h=>by
  simp only [Sem.run,Sem.bind] at h
  split at h
  ·cases h
  ·exact run_pure_image k _ _ _ h
  ·cases h
 | .choose q k,w,w',x,h=>by
  simp only [Sem.run,Sem.bind] at h
  split at h
  ·exact run_pure_image (k _) _ _ _ h
  ·exact run_pure_image (k _) _ _ _ h
 | .sys _ k,w,w',x,h=>run_pure_image (k _) _ _ _ h
 | .program k,w,w',x,h=>run_pure_image (k _) _ _ _ h
 | .mark _ k,w,w',x,h=>run_pure_image k _ _ _ h
 | .halt _,_,_,_,h=>by cases h
theorem tame_value {P:Program} {s:Sem Value} (hs:Tame s) {w:World} {n:Next} {w':World} (h:Sem.run P (s >>= λ x=>Pure.pure (Next.value x)) w=.ok n w'):(∃ u,n=.value u)/\Lasts w w':=
 ⟨run_pure_image s w w' n h,Tame.run _ (Tame.bind (f:=λ x=>Pure.pure (Next.value x)) hs λ _=>trivial) _ _ _ h⟩
theorem tameOp_run {P:Program} {o:Oper} (ho:tameOp o=true) {ρ:Operand->Value} {w:World} {n:Next} {w':World} (h:(execOp ρ o).run P w=.ok n w'):(∃ u,n=.value u)/\Lasts w w':=by
 obtain ⟨dst,op,type,pos,after,guard⟩:=o
 cases op<;>simp only [tameOp] at ho<;>first | cases ho | skip
 ·cases h
  exact ⟨⟨_,rfl⟩,Lasts.refl _⟩
 ·cases h
  exact ⟨⟨_,rfl⟩,Lasts.refl _⟩
 ·exact tame_value (Tame.alloc _) h
 ·exact tame_value (Tame.box _ _) h
 ·exact tame_value (Tame.buildSlice _ _ _) h
 ·exact tame_value (Tame.loadAt _ _) h
 ·exact tame_value (Tame.indexAt _ _ _) h
 ·rename_i c
  obtain ⟨callee,args,ts⟩:=c
  cases callee<;>simp only [lenCall] at ho<;>first | cases ho | skip
  rename_i b
  cases b<;>simp only [] at ho<;>first | cases ho | skip
  exact tame_value (Tame.len _ _ _) h
section
variable {P:Program} {ops:Array Oper} {Q:Exit->Act->World->Prop} {md:Region.Mode}
def behindR (md:Region.Mode) (ops:Array Oper) (listed:Array Bool) (i:Nat):Nat->Nat->Bool
 | 0,_=>false
 | n+1,j=>match ops[j]? with
  | some o=>o.after.any λ e=>Region.binds md e && (e.on==i || (!listed.getD e.on true && behindR md ops listed i n e.on))
  | none=>false
theorem behindR_not {i n j:Nat} {listed:Array Bool} (hi:listed.getD i true=false) (hb:behindR md ops listed i n j=true):j ∉ Region.ready md ops listed:=by
 intro hj
 obtain ⟨_,o,ho,hall⟩:=mem_ready.1 hj
 cases n with
 | zero=>cases hb
 | succ n =>
  simp only [behindR,ho] at hb
  obtain ⟨e,he,h1⟩:=Array.any_eq_true'.1 hb
  simp only [Bool.and_eq_true,Bool.or_eq_true,beq_iff_eq,Bool.not_eq_true'] at h1
  have h2:=hall e he h1.1
  have key:listed.getD e.on true=false->False:=λ h3=>by
   rcases Nat.lt_or_ge e.on listed.size with h' | h'
   ·simp [h'] at h2 h3;rw [h3] at h2;cases h2
   ·simp [Array.getElem?_eq_none h'] at h2
  rcases h1.2 with h3 | h3
  ·exact key (h3 ▸ hi)
  ·exact key h3.1
theorem behindR_keep {i:Nat} {listed:Array Bool} (hi:listed.getD i true=false) {j':Nat} (hj':j'∈Region.ready md ops listed):∀ (n j:Nat),behindR md ops listed i n j=true->behindR md ops (listed.setIfInBounds j' true) i n j=true
 | 0,_,h=>h
 | n+1,j,h=>by
  simp only [behindR] at h ⊢
  split
  ·rename_i o ho
   simp only [ho] at h
   obtain ⟨e,he,h1⟩:=Array.any_eq_true'.1 h
   refine Array.any_eq_true'.2 ⟨e,he,?_⟩
   simp only [Bool.and_eq_true,Bool.or_eq_true,beq_iff_eq,Bool.not_eq_true'] at h1 ⊢
   refine ⟨h1.1,h1.2.imp id λ h3=>⟨?_,behindR_keep hi hj' n _ h3.2⟩⟩
   rw [getD_set_ne true (λ e1=>behindR_not hi (e1 ▸ h3.2) hj')]
   exact h3.1
  ·rename_i ho
   simp only [ho] at h
   cases h
def YieldsR (P:Program) (ops:Array Oper) (o:Oper) (v:Value) (a:Act) (w0:World):Prop:=
 Region.wanted o (yielded ops a.tmps)=true/\∀ w,Lasts w0 w->(execOp a.eval o).run P w=.ok (.value v) w
theorem YieldsR.wpOp {i:Nat} {o:Oper} {v:Value} {a:Act} {w0 w:World} (hi:ops[i]? = some o) (hy:YieldsR P ops o v a w0) (he:Lasts w0 w)
  {K:Act->World->Prop} (h:K (a.put o.dst v) w):wpOp P ops Q i K a w:=by
 unfold Go.wpOp
 simp only [hi]
 obtain ⟨hw,hv⟩:=hy
 simp only [hw,if_true,Oper.wp,hv w he,Oper.upon]
 exact .inl h
theorem wpOp_putR {j:Nat} {oi oj:Oper} {v:Value} {w0:World} (hj:ops[j]? = some oj) (hap:oi.apart ops oj=true) (ht:tameOp oj=true)
  (hsi:∀ cs b,oi.op≠.select cs b) (hsj:∀ cs b,oj.op≠.select cs b)
  (hQ:∀ c a w,Q (.panic c) (a.put oi.dst v) w->Q (.panic c) a w) {K:Act->World->Prop} {a:Act} {w:World}
  (hy:YieldsR P ops oi v a w0) (he:Lasts w0 w) (h:wpOp P ops Q j K (a.put oi.dst v) w) :
  wpOp P ops Q j (λ a' w'=>YieldsR P ops oi v a' w0/\Lasts w0 w'/\K (a'.put oi.dst v) w') a w:=by
 obtain ⟨h1,h2,h3⟩:=Oper.apart_spec hap
 have keep:∀ u,YieldsR P ops oi v (a.put oj.dst u) w0:=λ u=>by
  unfold YieldsR at *
  rw [execOp_put oi hsi a oj.dst u h3,wanted_put oi a oj.dst u h3]
  exact hy
 unfold wpOp at *
 simp only [hj] at *
 rw [wanted_put oj a oi.dst v h1] at h
 split
 ·rename_i hw
  simp only [hw,if_true] at h
  rcases h with h | ⟨hasks,hlets⟩
  case inr=>exact .inr ⟨by unfold Oper.asks at *;rw [execOp_put oj hsj a oi.dst v h1] at hasks;exact hasks,hlets⟩
  refine .inl ?_
  unfold Oper.wp at *
  rw [execOp_put oj hsj a oi.dst v h1] at h
  generalize hr:(execOp a.eval oj).run P w=r at *
  cases r with
  | ok n w' =>
   obtain ⟨⟨u,rfl⟩,hx⟩:=tameOp_run ht hr
   simp only [Oper.upon] at h ⊢
   exact ⟨keep u,he.trans hx,by rw [<- Act.put_comm a v u h2];exact h⟩
  | halt x w' =>
   cases x<;>simp only [Oper.upon] at h ⊢
   case panic u=>exact hQ _ _ _ h
 ·rename_i hw
  simp only [hw] at h
  exact ⟨keep _,he,by rw [<- Act.put_comm a v undef h2];exact h⟩
theorem wpAny_firstR {i nb:Nat} {oi:Oper} {v:Value} {w0:World} (hi:ops[i]? = some oi) (hsel:∀ (j:Nat) (o:Oper) cs b,ops[j]? = some o->o.op≠.select cs b)
  (hQ:∀ c a w,Q (.panic c) (a.put oi.dst v) w->Q (.panic c) a w) :
  ∀ (fuel:Nat) (listed:Array Bool) (a:Act) (w:World),
   (∀ j oj,ops[j]? = some oj->j≠i->listed.getD j true=false->behindR md ops listed i nb j=false->oi.apart ops oj=true/\tameOp oj=true) →
   i∈Region.ready md ops listed->YieldsR P ops oi v a w0->Lasts w0 w →
   wpAny P md ops Q fuel (listed.setIfInBounds i true) (a.put oi.dst v) w->wpAny P md ops Q (fuel+1) listed a w:=by
 intro fuel
 induction fuel with
 | zero =>
  intro listed a w _ hr hy he H
  refine ⟨λ h=>(by rw [h] at hr;cases hr),λ j hj=>?_⟩
  by_cases hji:j=i
  ·subst hji;exact hy.wpOp hi he H
  ·have:=ready_mono hj hji
   rw [H.1] at this
   cases this
 | succ fuel ih =>
  intro listed a w hfree hr hy he H
  refine ⟨λ h=>(by rw [h] at hr;cases hr),λ j hj=>?_⟩
  by_cases hji:j=i
  ·subst hji;exact hy.wpOp hi he H
  ·have h1:=H.2 j (ready_mono hj hji)
   have hiu:=(mem_ready.1 hr).1
   obtain ⟨hjun,oj,hoj,hall⟩:=mem_ready.1 hj
   have hnb:behindR md ops listed i nb j=false:=by
    cases hb:behindR md ops listed i nb j with
    | false=>rfl
    | true=>exact absurd hj (behindR_not hiu hb)
   obtain ⟨hap,htm⟩:=hfree j oj hoj hji hjun hnb
   have h2:=wpOp_putR hoj hap htm (λ cs b=>hsel i oi cs b hi) (λ cs b=>hsel j oj cs b hoj) hQ hy he h1
   have hfree':∀ k ok,ops[k]? = some ok->k≠i->(listed.setIfInBounds j true).getD k true=false →
     behindR md ops (listed.setIfInBounds j true) i nb k=false->oi.apart ops ok=true/\tameOp ok=true:=λ k ok hk hki hun hno=>by
    refine hfree k ok hk hki ?_ ?_
    ·by_cases hjk:j=k
     ·subst hjk;exact hjun
     ·rw [getD_set_ne true hjk] at hun;exact hun
    ·cases hb:behindR md ops listed i nb k with
     | false=>rfl
     | true=>rw [behindR_keep hiu hj nb k hb] at hno;cases hno
   refine wpOp_mono (λ a' w' h3=>ih (listed.setIfInBounds j true) a' w' hfree' (ready_mono hr (Ne.symm hji)) h3.1 h3.2.1 ?_) h2
   rw [Array.setIfInBounds_comm _ _ hji]
   exact h3.2.2
def Only (T:Act->World->Prop):Exit->Act->World->Prop
 | .normal,a,w=>T a w
 | _,_,_=>False
theorem only_no {T:Act->World->Prop}:¬ LetsOut (Only T):=by rintro ⟨_,_,h⟩;exact h
theorem wp_only {o:Oper} {a:Act} {w:World} {K K':Act->World->Prop} {T:Act->World->Prop} (hK:∀ a w,K a w->K' a w) (h:o.wp P a w K (Only T)):o.wp P a w K' Q:=by
 unfold Oper.wp at *
 generalize (execOp a.eval o).run P w=r at *
 cases r with
 | ok n w' =>
  cases n<;>simp only [Oper.upon] at h ⊢ <;>
   first
    | exact hK _ _ h
    | exact Calls.mono h (λ e w'' he=>by
      cases e with
      | returned v=>exact hK _ _ he
      | panicked c=>exact he.elim
      | outgrown=>exact (only_no he).elim)
    | exact Rows.mono h (λ _ _ he=>hK _ _ he)
 | halt x w'=>cases x<;>simp only [Oper.upon] at h ⊢ <;> exact h.elim
theorem any_only {T:Act->World->Prop} (hT:∀ a w,T a w->Q .normal a w):∀ (fuel:Nat) (listed:Array Bool) (a:Act) (w:World),wpAny P md ops (Only T) fuel listed a w->wpAny P md ops Q fuel listed a w
 | 0,_,_,_,h=>⟨h.1,hT _ _ h.2⟩
 | fuel+1,listed,a,w,h=>⟨λ h0=>hT _ _ (h.1 h0),λ i hi=>by
  have h1:=h.2 i hi
  unfold Go.wpOp at *
  split
  ·rename_i ho
   simp only [ho] at h1
   exact any_only hT fuel _ _ _ h1
  ·rename_i o ho
   simp only [ho] at h1
   split
   ·rename_i hw
    simp only [hw,if_true] at h1
    rcases h1 with h1 | h1
    ·exact .inl (wp_only (λ a w=>any_only hT fuel _ a w) h1)
    ·exact (only_no h1.2).elim
   ·rename_i hw
    simp only [hw] at h1
    exact any_only hT fuel _ _ _ h1⟩
def freeR (md:Region.Mode) (ops:Array Oper) (listed:Array Bool) (i:Nat):Bool:=
 match ops[i]? with
 | none=>false
 | some oi=>(List.range ops.size).all λ j=>j==i || listed.getD j true || behindR md ops listed i 12 j || match ops[j]? with
   | some oj=>oi.apart ops oj && tameOp oj
   | none=>true
theorem wpAny_takeR {i:Nat} {oi:Oper} {v:Value} {fuel:Nat} {listed:Array Bool} {a:Act} {w:World} (hi:ops[i]? = some oi)
  (hs:Region.noSelect ops=true) (hf:freeR md ops listed i=true) (hr:(Region.ready md ops listed).contains i=true)
  (hQ:∀ c a w,Q (.panic c) (a.put oi.dst v) w->Q (.panic c) a w) (hy:YieldsR P ops oi v a w)
  (h:wpAny P md ops Q fuel (listed.setIfInBounds i true) (a.put oi.dst v) w):wpAny P md ops Q (fuel+1) listed a w:=
 wpAny_firstR (nb:=12) hi (Region.noSelect_spec hs) hQ fuel listed a w (λ j oj hj hne hun hnb=>by
  simp only [freeR,hi,List.all_eq_true,List.mem_range] at hf
  have h1:=hf j (Array.getElem?_eq_some_iff.1 hj).1
  simp only [hj,Bool.or_eq_true,beq_iff_eq,hne,false_or,hun,hnb,Bool.false_eq_true,Bool.and_eq_true] at h1
  exact h1) (by simpa using hr) hy (Lasts.refl _) h
theorem tkR {d:Option Tmp} {op:Op} {t:TypeId} {ps:String} {af:Array Edge} {g:Option (Nat × Bool)} {v:Value} {fuel:Nat} {listed:Array Bool} {a:Act} {w:World} (i:Nat) (hi:ops[i]? = some ⟨d,op,t,ps,af,g⟩)
  (hc:(Region.noSelect ops && freeR md ops listed i && (Region.ready md ops listed).contains i)=true) (hQ:∀ c a w,Q (.panic c) (a.put d v) w->Q (.panic c) a w)
  (hw:Region.wanted ⟨d,op,t,ps,af,g⟩ (yielded ops a.tmps)=true) (hy:∀ w',Lasts w w'->(execOp a.eval ⟨d,op,t,ps,af,g⟩).run P w'=.ok (.value v) w')
  (h:wpAny P md ops Q fuel (listed.setIfInBounds i true) (a.put d v) w):wpAny P md ops Q (fuel+1) listed a w:=by
 simp only [Bool.and_eq_true] at hc
 exact wpAny_takeR hi hc.1.1 hc.1.2 hc.2 hQ ⟨hw,hy⟩ h
end
section
variable {P:Program} {ops:Array Oper} {Q:Exit->Act->World->Prop} {md:Region.Mode} {d:Option Tmp} {op:Op} {t:TypeId} {ps:String} {af:Array Edge} {g:Option (Tmp × Bool)} {fuel:Nat} {listed:Array Bool} {a:Act} {w:World} {v:Value}
theorem tA (i:Nat) (h:wpAny P md ops Q fuel (listed.setIfInBounds i true) (a.put d v) w) (hi:ops[i]? = some ⟨d,op,t,ps,af,g⟩:=by rfl) (hc:(Region.noSelect ops && Region.free md ops listed i && (Region.ready md ops listed).contains i)=true:=by kernel_rfl)
  (hQ:∀ c a w,Q (.panic c) (a.put d v) w->Q (.panic c) a w:=by exact λ _ _ _ h=>h) (hw:Region.wanted ⟨d,op,t,ps,af,g⟩ (yielded ops a.tmps)=true:=by rfl) (hy:∀ w,(execOp a.eval ⟨d,op,t,ps,af,g⟩).run P w=.ok (.value v) w:=by (intro w;go_simp;try with_reducible rfl)) :
  wpAny P md ops Q (fuel+1) listed a w:=tk i hi hc hQ hw hy h
theorem sA (i:Nat) (h:wpAny P md ops Q fuel (listed.setIfInBounds i true) (a.put d undef) w) (hi:ops[i]? = some ⟨d,op,t,ps,af,g⟩:=by rfl) (hc:(Region.noSelect ops && Region.free md ops listed i && (Region.ready md ops listed).contains i)=true:=by kernel_rfl)
  (hQ:∀ c a w,Q (.panic c) (a.put d undef) w->Q (.panic c) a w:=by exact λ _ _ _ h=>h) (hw:Region.wanted ⟨d,op,t,ps,af,g⟩ (yielded ops a.tmps)=false:=by rfl):wpAny P md ops Q (fuel+1) listed a w:=sk i hi hc hQ hw h
theorem rA (i:Nat) {hy:∀ w',Lasts w w'->(execOp a.eval ⟨d,op,t,ps,af,g⟩).run P w'=.ok (.value v) w'} (h:wpAny P md ops Q fuel (listed.setIfInBounds i true) (a.put d v) w) (hi:ops[i]? = some ⟨d,op,t,ps,af,g⟩:=by rfl) (hc:(Region.noSelect ops && freeR md ops listed i && (Region.ready md ops listed).contains i)=true:=by kernel_rfl)
  (hQ:∀ c a w,Q (.panic c) (a.put d v) w->Q (.panic c) a w:=by exact λ _ _ _ h=>h) (hw:Region.wanted ⟨d,op,t,ps,af,g⟩ (yielded ops a.tmps)=true:=by rfl):wpAny P md ops Q (fuel+1) listed a w:=tkR i hi hc hQ hw hy h
end
open Go.Lib Go.Proofs Go.RowKit
def byteCs (l:Bytes):List Value:=l.map λ c=>Value.int .u8 c.toNat
theorem own_text {W:World} {base n:Nat} {v:Value} {l:Bytes} (h:W.ownsRow base 5 1 v n (byteCs l)) :
    (convert 159 9 v).run Tryz.prog W=.ok (.string ⟨l.toArray⟩) W:=by
  have hl:l.length=n:=by have:=h.1;simpa [byteCs] using this
  obtain ⟨h1,⟨rfl,rfl⟩ | ⟨g,cap,cur,rfl,hb,hh,hn,hm,hs,hx⟩⟩:=h
  · have:l=[]:=List.eq_nil_of_length_eq_zero hl
    subst this
    exact run_convert_bytes_nil _ _ _ Tryz.underlying159 Tryz.underlying5 _ _ _ Tryz.underlying9
  · have:=bytes_exact W g 0 n cap (λ k=>l.getD k 0) (λ j hj=>by
      rw [Nat.zero_add,cell_of_row W g j cur 5 (0,0) hh]
      have h2:(byteCs l)[j]? = some (.int .u8 (l.getD j 0).toNat):=by
        simp [byteCs,List.getElem?_eq_getElem (show j<l.length by omega)]
      rw [<- hx,List.getElem?_take,if_pos (by omega)] at h2
      simpa using h2)
    have e:(List.range n).map (λ k=>l.getD k 0)=l:=by
      apply List.ext_getElem?
      intro k
      by_cases hk:k<n
      · simp [hk,List.getElem?_eq_getElem (show k<l.length by omega)]
      · simp [hk,List.getElem?_eq_none (show l.length<=k by omega)]
    rw [this,e]
theorem zig_bits (v:Int) (h:I64 v):bits .xor .u64 (IntKind.u64.wrap (IntKind.u64.wrap v*2)) (IntKind.u64.wrap (v / 9223372036854775808))=((zigzag v:Nat):Int):=by
  obtain ⟨h0,h1⟩:=h
  by_cases hn:0<=v
  · have e1:IntKind.u64.wrap (IntKind.u64.wrap v*2)=(((2*v).toNat:Nat):Int):=by
      rw [IntKind.wrap_u64,IntKind.wrap_u64];omega
    have e2:IntKind.u64.wrap (v / 9223372036854775808)=((0:Nat):Int):=by
      rw [IntKind.wrap_u64];omega
    rw [e1,e2,bits_xor_u64_nat _ _ (by omega) (by decide),Nat.xor_zero]
    unfold zigzag
    rw [if_pos hn]
  · have e1:IntKind.u64.wrap (IntKind.u64.wrap v*2)=(((2*v+18446744073709551616).toNat:Nat):Int):=by
      rw [IntKind.wrap_u64,IntKind.wrap_u64];omega
    have e2:IntKind.u64.wrap (v / 9223372036854775808)=((2 ^ 64-1:Nat):Int):=by
      have:v / 9223372036854775808 = -1:=by omega
      rw [this];decide
    rw [e1,e2,bits_xor_u64_nat _ _ (by omega) (by decide),Nat.xor_comm,xor_ones64 _ (by omega)]
    unfold zigzag
    rw [if_neg hn]
    omega
theorem varsB_append:∀ a b:List Int,varsB (a++b)=varsB a++varsB b
  | [],_=>rfl
  | x :: a,b=>by simp [varsB,varsB_append a b]
theorem varsB_len:∀ l:List Int,(∀ x∈l,I64 x)->(varsB l).length<=10*l.length
  | [],_=>by simp [varsB]
  | x :: l,h=>by
    have h1:=varsB_len l λ y hy=>h y (List.mem_cons_of_mem _ hy)
    have h2:=(varB_len x (h x (List.mem_cons_self ..))).2
    simp only [varsB,List.length_append,List.length_cons]
    omega
theorem varsB_take {l:List Int} {k:Nat} (h:k<l.length):varsB (l.take (k+1))=varsB (l.take k)++varB l[k]:=by
  rw [List.take_succ_eq_append_getElem h,varsB_append]
  simp [varsB]
theorem one_new (w:World) (v:Value) (T:TypeId):∀ j u,[v][j]? = some u->(w.alloc (.cells #[v] T)).cell? ((⟨w.heap.size,0,none⟩:Addr).add j)=some u:=by
  intro j u h
  cases j with
  | zero=>cases h;exact World.cell?_alloc_at _ _ _ _ rfl
  | succ j=>simp at h
theorem byteCs_snoc (t:Bytes) (c:UInt8):byteCs t++[.int .u8 c.toNat]=byteCs (t++[c]):=by simp [byteCs]
theorem u8_more (m:Nat):bits .or .u8 ((m:Int) % 256) 128=(((m % 128+128).toUInt8.toNat:Nat):Int):=by
  rw [u8_or128_any _ (by omega) (by omega)]
  have:((m % 128+128).toUInt8).toNat=m % 128+128:=by
    rw [Nat.toUInt8,UInt8.toNat_ofNat_of_lt' (by show m % 128+128<256;omega)]
  rw [this]
  omega
theorem u8_last (m:Nat) (h:m<128):IntKind.u8.wrap (m:Int)=((m.toUInt8.toNat:Nat):Int):=by
  have:(m.toUInt8).toNat=m:=by
    rw [Nat.toUInt8,UInt8.toNat_ofNat_of_lt' (by show m<256;omega)]
  rw [this,IntKind.wrap_u8']
  omega
theorem vars_any (A:Option Addr) (n c:Nat) (l:List Int) (w:World) (hv:Sl w 1 (.slice A n c) n (l.map (Value.int .i64))) (hl:∀ x∈l,I64 x) (hn:n<=1000) :
    Calls Tryz.prog 84 #[.slice A n c] w λ e w'=>e=.returned (.string ⟨(varsB l).toArray⟩)/\Below w.heap.size w w':=by
  obtain ⟨i0,hi,hz0,hz1,hz2⟩:=info_parts (show (Tryz.prog.info? 5).map (λ i=>(i.zero,i.size,i.bytes))=some (some (.int .u8 0),1,1) by kernel_rfl)
  go_enter Tryz.func84,Tryz.ntmps84
  go_wp2
  go_loopw [3,9] (λ b i wr=>∃ (k:Nat),k<=n/\i=.int .i64 (k:Int)/\wr.ownsRow w.heap.size 5 1 b (varsB (l.take k)).length (byteCs (varsB (l.take k)))/\Below w.heap.size w wr) (λ _ i _=>n-(Go.RowKit.intOf i).toNat)
  case atStart=>exact ⟨0,by omega,rfl,World.ownsRow_nil _ _ _ _,Below.refl _ _⟩
  case round =>
    obtain ⟨k,hk,rfl,hown,hb⟩:=hrel
    by_cases hlt:k<n
    · obtain ⟨wo,rfl⟩:∃ wo:World,wo=wr:=⟨_,rfl⟩
      obtain ⟨A',c',e0,h0,h1,h2⟩:=hv
      cases e0
      obtain ⟨blk,off,rfl,hbl,hcell⟩:=h2 (by omega)
      have hk':k<l.length:=by simp at h1;omega
      have hc:wo.cell? ⟨blk,off+k,none⟩=some (.int .i64 l[k]):=(hb.cell (p:=⟨blk,off+k,none⟩) hbl).trans (hcell k _ (by simp [hk']))
      have hx:=hl l[k] (List.getElem_mem hk')
      clear hcell h2
      generalize hX:l[k]=x at *
      have HX:=hid hX
      clear hX
      have hz:=zig_bits x hx
      have hm:=zigzag_lt64 hx
      have hT:Hid (varsB (l.take (k+1))=varsB (l.take k)++uvarint (zigzag x)):=by
        show _=_
        rw [varsB_take hk',HX.out]
        rfl
      have hL:(varsB (l.take (k+1))).length<=10010:=by
        have h5:=varsB_len (l.take (k+1)) λ y hy=>hl y (List.mem_of_mem_take hy)
        have h6:(l.take (k+1)).length<=k+1:=List.length_take_le _ _
        omega
      have hL0:(varsB (l.take k)).length<=10010:=by
        have h5:=varsB_len (l.take k) λ y hy=>hl y (List.mem_of_mem_take hy)
        have h6:(l.take k).length<=k:=List.length_take_le _ _
        omega
      have HL:=hid hL
      clear hL
      generalize zigzag x=m0 at *
      go_wp2
      go_loopw [3,6] (λ b u wr'=>∃ (m:Nat) (t:Bytes),u=.int .u64 (m:Int)/\m<18446744073709551616/\Hid (t++uvarint m=varsB (l.take (k+1)))/\t.length<=100000/\wr'.ownsRow w.heap.size 5 1 b t.length (byteCs t)/\Below w.heap.size w wr') (λ _ u _=>(Go.RowKit.intOf u).toNat)
      case atStart=>exact ⟨m0,_,rfl,hm,by show _=_;rw [hT.out],by omega,hown,hb⟩
      case round =>
        obtain ⟨m,t,rfl,hm',hS,htl,hown',hb'⟩:=hrel
        clear hz
        by_cases h128:128<=m
        · have h128':(128:Int)<=(m:Int):=by omega
          have ho:=u8_more m
          have hS':Hid ((t++[(m % 128+128).toUInt8])++uvarint (m / 128)=varsB (l.take (k+1))):=by
            show _=_
            rw [<- hS.out,uvarint_big h128]
            simp
          clear hS
          generalize (m % 128+128).toUInt8=x8 at ho hS'
          go_wp2_with (first
            | (at_builtin;go_must (refine wpList_append_own _ rfl _ _ 159 rfl w.heap.size 5 i0 (.int .u8 0) 1 1 Tryz.underlying159 hi hz0 hz1 hz2 rfl (by decide) _ _ _ rfl (hown'.alloc _) ⟨wr.heap.size,0,none⟩ 1 1 [.int .u8 x8.toNat] rfl rfl (one_new _ _ _) ?c2 ?c3 ?c4 ?c5 ?_)
               case c2=>simp [Value.oneCell']
               case c3=>unfold maxLen;omega
               case c4=>omega
               case c5=>have:=hb'.size;simp;omega
               intro v' w1 hown1 hgrow _
               rw [byteCs_snoc] at hown1
               have hb1:Below w.heap.size w w1:=(hb'.alloc hb'.size _).grown hgrow (by have:=hb'.size;simp;omega) (λ k hk=>(hown'.lt k hk).1)
               clear hown' hgrow))
          go_round
          case rel=>exact ⟨m / 128,t++[x8],by go_num,by omega,hS',by have h7:=congrArg List.length hS'.out;have h8:=HL.out;rw [List.length_append] at h7;omega,by simpa using hown1,hb1⟩
          case measure=>simp [Go.RowKit.intOf];omega
        · have h128':¬ (128:Int)<=(m:Int):=by omega
          have hS':Hid (t++[m.toUInt8]=varsB (l.take (k+1))):=by
            show _=_
            rw [<- hS.out,uvarint_small (by omega)]
          have ho:[Value.int .u8 (m:Int)]=[Value.int .u8 ((m.toUInt8.toNat:Nat):Int)]:=by
            have:=u8_last m (by omega)
            rw [<- this,IntKind.wrap_u8']
            congr 2
            omega
          clear hS
          generalize m.toUInt8=x8 at ho hS'
          have HO:=hid ho
          clear ho
          go_wp2_with (first
            | (at_builtin;go_must (refine wpList_append_own _ rfl _ _ 159 rfl w.heap.size 5 i0 (.int .u8 0) 1 1 Tryz.underlying159 hi hz0 hz1 hz2 rfl (by decide) _ _ _ rfl (hown'.alloc _) ⟨wr.heap.size,0,none⟩ 1 1 [.int .u8 (m:Int)] rfl rfl (one_new _ _ _) ?d2 ?d3 ?d4 ?d5 ?_)
               case d2=>simp [Value.oneCell']
               case d3=>unfold maxLen;omega
               case d4=>omega
               case d5=>have:=hb'.size;simp;omega
               intro v' w1 hown1 hgrow _
               rw [HO.out,byteCs_snoc] at hown1
               have hb1:Below w.heap.size w w1:=(hb'.alloc hb'.size _).grown hgrow (by have:=hb'.size;simp;omega) (λ k hk=>(hown'.lt k hk).1)
               clear hown' hgrow))
          go_roundw
          case rel=>exact ⟨k+1,by omega,by go_num,by rw [<- hS'.out];simpa using hown1,hb1⟩
          case measure=>simp [Go.RowKit.intOf];omega
    · have hkn:k=n:=by omega
      subst hkn
      have hkl:l.length=k:=by obtain ⟨_,_,e,_,h1,_⟩:=hv;simpa using h1
      have ht:l.take k=l:=List.take_of_length_le (by omega)
      rw [ht] at hown
      have hc:=own_text hown
      clear hv hown ht hkl
      go_wp2
      go_ret
      exact ⟨rfl,hb⟩
end Go.Ev
namespace Go.Ev
open Go.Proofs Go.RowKit
def Bd (w:World) (B b:Nat) (F:Option Nat) (l:Bytes):Prop:=
 B<=b/\∃ p v,(p=.pointer none\/p=.pointer (some ⟨b,0,none⟩))/\w.heap[b]? = some (.cells #[p,v] 161 (0,0))/\w.ownsRowF B 5 1 v l.length (Lib.byteCells l)/\v.ownBlock=F/\F≠some b
def BdS (b:Nat) (F:Option Nat) (k:Nat):Prop:=k=b\/some k=F
theorem Bd.lt {w:World} {B b:Nat} {F:Option Nat} {l:Bytes} (h:Bd w B b F l):b<w.heap.size:=by
 obtain ⟨_,p,v,_,h1,_⟩:=h
 exact (Array.getElem?_eq_some_iff.1 h1).1
theorem Bd.ne {w:World} {B b g:Nat} {F:Option Nat} {l:Bytes} {t:TypeId} {cs:Array Value} (h:Bd w B b F l) (hb:Blk w g t cs) (ht:t≠5):some g≠F:=by
 obtain ⟨_,p,v,_,h1,h2,h3,_⟩:=h
 rintro rfl
 rcases h2.2 with ⟨rfl,_⟩ | ⟨g',cap,cur,fz,rfl,_,hg,_⟩
 ·cases h3
 ·simp only [Value.ownBlock,Option.some.injEq] at h3
  subst h3
  unfold Blk at hb
  rw [hb] at hg
  simp only [Option.some.injEq,Obj.cells.injEq] at hg
  exact ht hg.2.1
theorem Bd.keeps {S:Nat->Prop} {w w':World} {B b:Nat} {F:Option Nat} {l:Bytes} (h:Bd w B b F l) (hk:Keeps S w w') (hb:¬ S b) (hF:∀ k,F=some k->¬ S k):Bd w' B b F l:=by
 have hlt:=h.lt
 obtain ⟨hB,p,v,h0,h1,h2,h3,h4⟩:=h
 refine ⟨hB,p,v,h0,(hk.block b hlt hb).trans h1,?_,h3,h4⟩
 refine ⟨h2.1,?_⟩
 rcases h2.2 with hn | ⟨g,cap,cur,fz,rfl,hb',hg,rest⟩
 ·exact .inl hn
 ·exact .inr ⟨g,cap,cur,fz,rfl,hb',(hk.block g (Array.getElem?_eq_some_iff.1 hg).1 (hF g (by rw [<- h3];rfl))).trans hg,rest⟩
theorem Bd.below {w w':World} {B b:Nat} {F:Option Nat} {l:Bytes} (h:Bd w B b F l) (hb:Below w.heap.size w w'):Bd w' B b F l:=h.keeps (S:=λ _=>False) (Keeps.of_below hb) id λ _ _=>id
theorem Bd.alloc {w:World} {B b:Nat} {F:Option Nat} {l:Bytes} (h:Bd w B b F l) (o:Obj):Bd (w.alloc o) B b F l:=h.below ((Below.refl _ _).alloc (Nat.le_refl _) o)
theorem Bd.drew {w:World} {B b:Nat} {F:Option Nat} {l:Bytes} (h:Bd w B b F l):Bd w.drew B b F l:=h
theorem Bd.new (w:World):Bd (w.alloc (.cells #[.pointer none,.slice none 0 0] 161)) w.heap.size w.heap.size none []:=
 ⟨Nat.le_refl _,_,_,.inl rfl,heap_alloc_new w _,World.ownsRowF_nil _ _ _ _,rfl,by simp⟩
def Used (w:World) (B b:Nat) (F:Option Nat) (l:Bytes):Prop:=
 ∃ v,w.heap[b]? = some (.cells #[.pointer (some ⟨b,0,none⟩),v] 161 (0,0))/\w.ownsRowF B 5 1 v l.length (Lib.byteCells l)/\v.ownBlock=F/\F≠some b
def Wrote (B b:Nat) (F:Option Nat) (l:Bytes) (w:World) (v:Value) (e:Ending) (w':World):Prop:=e=.returned v/\(∃ F',Bd w' B b F' l)/\Keeps (BdS b F) w w'
theorem check_any {w:World} {B b:Nat} {F:Option Nat} {l:Bytes} (h:Bd w B b F l) :
  Calls Tryz.prog 150 #[.pointer (some ⟨b,0,none⟩)] w λ e w'=>e=.returned (.tuple #[])/\Used w' B b F l/\Keeps (BdS b F) w w':=by
 obtain ⟨hB,p,v,hp,h1,h2,h3,h4⟩:=h
 rcases hp with rfl | rfl
 ·refine (Any.Builder_copyCheck_fresh Tryz.bCheck Tryz.bX.toX72 b w (by rw [Lib.cell_of_heap h1];rfl) (by simp [World.shape?,h1];rfl) (Lib.frozen_of_heap h1 0)).mono ?_
  rintro e w' ⟨rfl,rfl⟩
  refine ⟨rfl,⟨v,?_,?_,h3,h4⟩,(Keeps.refl _ _).setCell (λ _=>.inl rfl) _⟩
  ·simp [World.setCell,Array.getElem?_modify,h1]
  ·exact h2.kept (row:=some b) ⟨rfl,rfl,rfl,by simp [World.setCell],λ k _ hk=>Below.heap_setCell _ _ _ _ (λ e=>hk (by simp [e]))⟩ (.inr (by rw [h3];exact h4))
 ·refine (Any.Builder_copyCheck_used Tryz.bCheck Tryz.bX.toX72 b w (by rw [Lib.cell_of_heap h1];rfl)).mono ?_
  rintro e w' ⟨rfl,rfl⟩
  exact ⟨rfl,⟨v,h1,h2,h3,h4⟩,Keeps.refl _ _⟩
theorem Bd.put {w:World} {B b:Nat} {p v v':Value} {l:Bytes} (hB:B<=b) (hp:p=.pointer none\/p=.pointer (some ⟨b,0,none⟩)) (hb:w.heap[b]? = some (.cells #[p,v] 161 (0,0))) (hown:w.ownsRowF B 5 1 v' l.length (Lib.byteCells l)) :
  ∃ F',Bd (w.setCell ⟨b,1,none⟩ v') B b F' l:=by
 have hne:=Lib.ownBlock_neF hown hb (by decide)
 refine ⟨v'.ownBlock,hB,p,v',hp,?_,?_,rfl,hne⟩
 ·simp [World.setCell,Array.getElem?_modify,hb]
 ·exact hown.kept (row:=some b) ⟨rfl,rfl,rfl,by simp [World.setCell],λ k _ hk=>Below.heap_setCell _ _ _ _ (λ e=>hk (by simp [e]))⟩ (.inr hne)
theorem bw_string {w:World} {B b:Nat} {F:Option Nat} {l:Bytes} (h:Bd w B b F l) (s:Bytes) (hL:l.length+s.length<=1000000) (hBw:B<=w.heap.size) :
  Calls Tryz.prog 92 #[.pointer (some ⟨b,0,none⟩),.string ⟨s.toArray⟩] w (Wrote B b F (l++s) w (.tuple #[.int .i64 s.length,.nilIface])):=by
 obtain ⟨i0,hi,hz0,hz1,hz2⟩:=info_parts Tryz.bX.infoByte
 go_enter Tryz.func92,Tryz.ntmps92
 go_wp2_with (go_at_call 150;refine (check_any h).mono ?_)
 rintro e w1 ⟨rfl,h1,K1⟩
 obtain ⟨v,hbk,hown,hF,hne⟩:=h1
 have c0:w1.cell? ⟨b,0,none⟩=some (.pointer (some ⟨b,0,none⟩)):=by rw [Lib.cell_of_heap hbk];rfl
 have c1:w1.cell? ⟨b,1,none⟩=some v:=by rw [Lib.cell_of_heap hbk];rfl
 go_wp2_with (at_builtin;refine Lib.wpList_append_own_stringF _ rfl _ _ 159 9 rfl B 5 i0 Tryz.underlying159 Tryz.underlying9 hi hz0 hz1 hz2 _ _ _ rfl hown ⟨s.toArray⟩ rfl ?c3 ?c4 ?c5 ?_)
 case c3=>unfold maxLen;simp [ByteArray.size];omega
 case c4=>simp [ByteArray.size];omega
 case c5=>have:=K1.size;omega
 intro v' w2 hown' hgrow _
 have hlt:b<w1.heap.size:=(Array.getElem?_eq_some_iff.1 hbk).1
 have hb2:w2.heap[b]? = some (.cells #[.pointer (some ⟨b,0,none⟩),v] 161 (0,0)):=by
  rw [hgrow.block b hlt (λ e=>hne e.symm)]
  exact hbk
 have d1:w2.cell? ⟨b,1,none⟩=some v:=by rw [Lib.cell_of_heap hb2];rfl
 have f1:w2.frozen? ⟨b,1,none⟩=false:=Lib.frozen_of_heap hb2 1
 rw [show Lib.strCells ⟨s.toArray⟩=Lib.byteCells s from rfl,<- Lib.byteCells_append,<- List.length_append] at hown'
 obtain ⟨ao,n',cap,rfl⟩:∃ ao n' cap,v'=.slice ao n' cap:=by
  rcases hown'.2 with ⟨hv,_⟩ | ⟨g,cap,cur,fz,hv,_⟩
  ·exact ⟨_,_,_,hv⟩
  ·exact ⟨_,_,_,hv⟩
 go_wp2
 go_ret2
 refine ⟨rfl,Bd.put h.1 (.inr rfl) hb2 hown',?_⟩
 exact ((K1.grown hgrow (λ k hk _=>.inr hk.symm)).setCell (p:=⟨b,1,none⟩) (λ _=>.inl rfl) _)
theorem keeps_freeze {S:Nat->Prop} {a w:World} (h:Keeps S a w) {p:Addr} (hp:p.block<a.heap.size->S p.block) (n:Nat):Keeps S a (w.freeze p n):=by
 refine ⟨?_,?_,?_,?_,λ k hk hn=>?_⟩
 ·unfold World.freeze;split<;>exact h.os
 ·unfold World.freeze;split<;>exact h.tape
 ·unfold World.freeze;split<;>exact h.output
 ·unfold World.freeze;split
  ·exact h.size
  ·simpa using h.size
 ·have hne:p.block≠k:=by rintro rfl;exact hn (hp hk)
  unfold World.freeze
  split
  ·exact h.block k hk hn
  ·simp only [Array.getElem?_modify]
   rw [if_neg hne]
   exact h.block k hk hn
theorem bw_text_ne {w:World} {B b:Nat} {F:Option Nat} {l:Bytes} (h:Bd w B b F l) (h0:l≠[]) :
  Calls Tryz.prog 94 #[.pointer (some ⟨b,0,none⟩)] w (Wrote B b F l w (.string ⟨l.toArray⟩)):=by
 obtain ⟨hB,p,v,hp,hbk,hown,hF,hne⟩:=h
 have hl0:l.length≠0:=by simpa using h0
 obtain ⟨g,cap,cur,fz,rfl,hbg,hg,hfz,hnc,hcm,hcs,htake⟩:∃ g cap cur fz,v=.slice (some ⟨g,0,none⟩) l.length cap/\B<=g/\w.heap[g]? = some (.cells cur 5 fz)/\fz.2<=l.length*1/\l.length<=cap/\cap<=maxLen/\cur.size=cap*1/\cur.toList.take (l.length*1)=Lib.byteCells l:=by
  rcases hown.2 with ⟨_,hz⟩ | ⟨g,cap,cur,fz,hv,r⟩
  ·exact absurd hz hl0
  ·exact ⟨g,cap,cur,fz,hv,r⟩
 have c1:w.drew.cell? ⟨b,1,none⟩=some (.slice (some ⟨g,0,none⟩) l.length cap):=by
  have:w.drew.heap[b]? = some (.cells #[p,.slice (some ⟨g,0,none⟩) l.length cap] 161 (0,0)):=hbk
  rw [Lib.cell_of_heap this];rfl
 have hSD:(Builtin.unsafeSliceData_ #[159] 245 #[.slice (some ⟨g,0,none⟩) l.length cap]).run Tryz.prog w.drew=.ok (.pointer (some ⟨g,0,none⟩)) w.drew:=
  Lib.run_unsafeSliceData_row _ _ _ _ _ _ (by omega)
 have hUS:(Builtin.unsafeString_ #[245,3] 9 #[.pointer (some ⟨g,0,none⟩),.int .i64 l.length]).run Tryz.prog w.drew=.ok (.string ⟨l.toArray⟩) (w.drew.freeze ⟨g,0,none⟩ l.length):=by
  refine Lib.run_unsafeString_row w.drew 245 3 9 5 Tryz.underlying245 Tryz.bX.cellsByte g cur.size (by have hg':w.drew.heap[g]? = some (.cells cur 5 fz):=hg;simp [World.shape?,hg']) l h0 (by omega) (by unfold maxLen at hcm;omega) ?_
  intro j x hx
  exact hown.cells (g:=g) rfl j (.int .u8 x.toNat) (by simp [Lib.byteCells,hx])
 have hkeep:Bd (w.drew.freeze ⟨g,0,none⟩ l.length) B b F l:=by
  have hA:Lib.BuilderAtF 161 5 B b p (Lib.byteCells l) w.drew:=⟨hB,_,hbk,by rw [Lib.byteCells_length];exact hown,by rw [hF];exact hne⟩
  have hFz:=hA.froze (g:=g) (cap:=cap) (by rw [Lib.byteCells_length];exact c1)
  rw [Lib.byteCells_length] at hFz
  obtain ⟨_,v',k1,k2,k3⟩:=hFz
  rw [Lib.byteCells_length] at k2
  have e:v'=.slice (some ⟨g,0,none⟩) l.length cap:=by
   have hnb:g≠b:=λ e=>hne (by rw [<- hF,e];rfl)
   have:(w.drew.freeze ⟨g,0,none⟩ l.length).heap[b]? = w.heap[b]?:=by
    unfold World.freeze
    split
    ·rfl
    ·simp only [Array.getElem?_modify]
     rw [if_neg hnb]
     rfl
   rw [this,hbk] at k1
   simpa using k1.symm
  subst e
  exact ⟨hB,p,_,hp,k1,k2,hF,hne⟩
 go_enter Tryz.func94,Tryz.ntmps94
 go_wp2
 go_region
 all_goals (go_wp2;go_ret;exact ⟨rfl,⟨_,hkeep⟩,keeps_freeze (Keeps.refl _ _).drew (p:=⟨g,0,none⟩) (λ _=>.inr (by rw [<- hF];rfl)) _⟩)
theorem bw_text {w:World} {B b:Nat} {F:Option Nat} {l:Bytes} (h:Bd w B b F l) :
  Calls Tryz.prog 94 #[.pointer (some ⟨b,0,none⟩)] w λ e w'=>e=.returned (.string ⟨l.toArray⟩)/\Below B w w':=by
 have hlt:=h.lt
 obtain ⟨hB,p,v,hp,h1,h2,h3,h4⟩:=h
 refine (Any.Builder_String_any_f Tryz.bText Tryz.bX B b l w ?_ (by omega)).mono ?_
 ·rcases hp with rfl | rfl
  ·exact .inl ⟨hB,v,h1,by rw [Lib.byteCells_length];exact h2,by rw [h3];exact h4⟩
  ·exact .inr ⟨hB,v,h1,by rw [Lib.byteCells_length];exact h2,by rw [h3];exact h4⟩
 ·rintro e w' ⟨rfl,_,h2⟩
  exact ⟨rfl,h2⟩
theorem Bd.not {w:World} {B b g:Nat} {F:Option Nat} {l:Bytes} {t:TypeId} {cs:Array Value} (h:Bd w B b F l) (hb:Blk w g t cs) (ht:t≠5) (hg:g≠b):¬ BdS b F g:=by
 rintro (e | e)
 ·exact hg e
 ·exact h.ne hb ht e
theorem Bd.below_of {w w':World} {B b:Nat} {F:Option Nat} {l:Bytes} (h:Bd w B b F l) (hk:Keeps (BdS b F) w w') (hBw:B<=w.heap.size):Below B w w':=by
 obtain ⟨hB,p,v,hp,h1,h2,h3,h4⟩:=h
 refine hk.below hBw λ i hi hs=>?_
 rcases hs with rfl | hs
 ·omega
 ·have:=(h2.lt i (h3.trans hs.symm)).1
  omega
end Go.Ev
