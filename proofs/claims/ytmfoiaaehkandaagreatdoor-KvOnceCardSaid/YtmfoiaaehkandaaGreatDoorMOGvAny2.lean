/-
  Texts of this claim.
-/
import Derived.Test.YtmfoiaaehkandaaGreatDoorMOGvMin
set_option linter.unusedVariables false
set_option linter.unusedSimpArgs false
namespace Go.Ev
def Lasts (w w':World):Prop:=w.heap.size<=w'.heap.size/\∀ k,k<w.heap.size->w'.heap[k]? = w.heap[k]?
theorem Lasts.refl (w:World):Lasts w w:=⟨Nat.le_refl _,λ _ _=>rfl⟩
theorem Lasts.trans {a b c:World} (h:Lasts a b) (k:Lasts b c):Lasts a c:=⟨Nat.le_trans h.1 k.1,λ i hi=>(k.2 i (Nat.lt_of_lt_of_le hi h.1)).trans (h.2 i hi)⟩
theorem Lasts.cell {w w':World} (h:Lasts w w') {p:Addr} {v:Value} (hc:w.cell? p=some v):w'.cell? p=some v:=by
 have hlt:p.block<w.heap.size:=by
  unfold World.cell? at hc
  cases hb:w.heap[p.block]? with
  | none=>simp [hb] at hc
  | some x=>exact (Array.getElem?_eq_some_iff.1 hb).1
 have e:w'.cell? p=w.cell? p:=by
  unfold World.cell?
  rw [h.2 _ hlt]
 rw [e]
 exact hc
def Tame {α:Type}:Sem α->Prop
 | .pure _=>True
 | .load _ _ k=>∀ v,Tame (k v)
 | .store .. => False
 | .new _ k=>∀ r,Tame (k r)
 | .shape _ k=>∀ s,Tame (k s)
 | .freeze .. => False
 | .frozen _ k=>∀ b,Tame (k b)
 | .getObj _ k=>∀ o,Tame (k o)
 | .setObj .. => False
 | .choose _ k=>∀ n,Tame (k n)
 | .sys .. => False
 | .program k=>∀ p,Tame (k p)
 | .mark _ k=>Tame k
 | .halt _=>True
theorem Tame.bind' {α β:Type} {f:α->Sem β}:∀ (s:Sem α),Tame s->(∀ x,Tame (f x))->Tame (Sem.bind s f)
 | .pure _,_,hf=>hf _
 | .load _ _ k,h,hf=>λ v=>Tame.bind' (k v) (h v) hf
 | .store ..,h,_=>h.elim
 | .new _ k,h,hf=>λ v=>Tame.bind' (k v) (h v) hf
 | .shape _ k,h,hf=>λ v=>Tame.bind' (k v) (h v) hf
 | .freeze ..,h,_=>h.elim
 | .frozen _ k,h,hf=>λ v=>Tame.bind' (k v) (h v) hf
 | .getObj _ k,h,hf=>λ v=>Tame.bind' (k v) (h v) hf
 | .setObj ..,h,_=>h.elim
 | .choose _ k,h,hf=>λ v=>Tame.bind' (k v) (h v) hf
 | .sys ..,h,_=>h.elim
 | .program k,h,hf=>λ v=>Tame.bind' (k v) (h v) hf
 | .mark _ k,h,hf=>Tame.bind' k h hf
 | .halt _,_,_=>trivial
theorem Tame.bind {α β:Type} {s:Sem α} {f:α->Sem β} (h:Tame s) (hf:∀ x,Tame (f x)):Tame (s >>= f):=Tame.bind' s h hf
theorem Tame.pure {α:Type} (x:α):Tame (Pure.pure x:Sem α):=trivial
theorem Tame.run {α:Type} {P:Program}:∀ (s:Sem α),Tame s->∀ (w w':World) (x:α),s.run P w=.ok x w'->Lasts w w'
 | .pure _,_,w,w',x,h=>by cases h;exact Lasts.refl _
 | .load m a k,ht,w,w',x,h=>by
  simp only [Sem.run] at h
  split at h
  ·exact Tame.run (k _) (ht _) _ _ _ h
  ·split at h
   ·exact Tame.run (k _) (ht _) _ _ _ h
   ·cases h
 | .store ..,ht,_,_,_,_=>ht.elim
 | .new o k,ht,w,w',x,h=>by
  simp only [Sem.run] at h
  refine Lasts.trans ⟨by simp,λ i hi=>?_⟩ (Tame.run (k _) (ht _) _ _ _ h)
  simp only [Array.getElem?_push]
  rw [if_neg (by omega)]
 | .shape _ k,ht,w,w',x,h=>Tame.run (k _) (ht _) _ _ _ h
 | .freeze ..,ht,_,_,_,_=>ht.elim
 | .frozen _ k,ht,w,w',x,h=>Tame.run (k _) (ht _) _ _ _ h
 | .getObj r k,ht,w,w',x,h=>by
  simp only [Sem.run] at h
  split at h
  ·cases h
  ·exact Tame.run (k _) (ht _) _ _ _ h
  ·cases h
 | .setObj ..,ht,_,_,_,_=>ht.elim
 | .choose q k,ht,w,w',x,h=>by
  simp only [Sem.run] at h
  split at h
  ·exact Tame.run (k _) (ht _) _ _ _ h
  ·exact (show Lasts w { w with drawn:=w.drawn+1 } from ⟨Nat.le_refl _,λ _ _=>rfl⟩).trans (Tame.run (k _) (ht _) _ _ _ h)
 | .sys ..,ht,_,_,_,_=>ht.elim
 | .program k,ht,w,w',x,h=>Tame.run (k _) (ht _) _ _ _ h
 | .mark _ k,ht,w,w',x,h=>Tame.run k ht _ _ _ h
 | .halt _,_,_,_,_,h=>by cases h
theorem tame_bounds {α:Type} (k:IntKind) (i l:Int) (c:BoundsCode):Tame (Go.boundsPanic k i l c:Sem α):=by
 have hj:∀ s,Tame (Go.runtimePanic (.bounds (IntKind.i64.wrap i) l s c):Sem α):=λ s=>by
  unfold Go.runtimePanic
  exact Tame.bind (s:=Go.program) (λ _=>trivial) λ p=>trivial
 unfold Go.boundsPanic
 dsimp only
 split
 ·exact Tame.bind (Tame.bind' (s:=Go.choose _) (λ _=>trivial) λ _=>trivial) hj
 ·exact Tame.bind trivial hj
theorem Tame.underlying (t:TypeId):Tame (Go.underlying t):=by
 unfold Go.underlying
 refine Tame.bind (λ _=>trivial) λ p=>?_
 split<;>trivial
theorem Tame.typeInfo (t:TypeId):Tame (Go.typeInfo t):=by
 unfold Go.typeInfo
 refine Tame.bind (λ _=>trivial) λ p=>?_
 split<;>trivial
theorem Tame.zeroValue (t:TypeId):Tame (Go.zeroValue t):=by
 unfold Go.zeroValue
 refine Tame.bind (Tame.typeInfo t) λ i=>?_
 split<;>trivial
theorem Tame.sizeOf (t:TypeId):Tame (Go.sizeOf t):=Tame.bind (Tame.typeInfo t) λ _=>trivial
theorem Tame.isAgg (t:TypeId):Tame (Go.isAgg t):=by
 refine Tame.bind (Tame.underlying t) λ d=>?_
 split<;>trivial
theorem Tame.load (a:Addr):Tame (Go.load a):=λ _=>trivial
theorem Tame.loadCellsFrom (a:Addr):∀ (n i:Nat) (acc:Array Value),Tame (Go.loadCellsFrom a i n acc)
 | 0,_,_=>trivial
 | n+1,i,acc=>Tame.bind (Tame.load _) λ _=>Tame.loadCellsFrom a n _ _
theorem Tame.loadVar (t:TypeId) (a:Addr):Tame (Go.loadVar t a):=by
 unfold Go.loadVar
 refine Tame.bind (Tame.isAgg t) λ b=>?_
 split
 ·refine Tame.bind (Tame.sizeOf t) λ n=>Tame.bind ?_ λ _=>trivial
  exact Tame.loadCellsFrom _ _ _ _
 ·exact Tame.load _
theorem Tame.sureAddr (v:Value):Tame (Instr.sureAddr v):=by
 unfold Instr.sureAddr
 split<;>trivial
theorem Tame.loadAt (t:TypeId) (v:Value):Tame (Instr.loadAt t v):=Tame.bind (Tame.sureAddr v) λ _=>Tame.loadVar _ _
theorem Tame.newVar (t:TypeId) (v:Value):Tame (Go.newVar t v):=Tame.bind (λ _=>trivial) λ _=>trivial
theorem Tame.alloc (t:TypeId):Tame (Instr.alloc t true (.tuple #[])):=by
 unfold Instr.alloc
 refine Tame.bind (Tame.zeroValue t) λ z=>?_
 dsimp only
 exact Tame.bind (Tame.newVar _ _) λ _=>trivial
theorem Tame.asIntOf (v:Value):Tame (Go.asIntOf v):=by
 unfold Go.asIntOf
 split<;>trivial
theorem Tame.indexAt (t:TypeId) (x i:Value):Tame (Instr.indexAt t x i):=by
 unfold Instr.indexAt
 refine Tame.bind (Tame.asIntOf i) λ ki=>?_
 refine Tame.bind (Tame.underlying t) λ d=>?_
 have hj:∀ r:Option Addr × Nat × TypeId,Tame (match r with
   | (base,len,elem)=>do
    let __do_lift <- Go.underlying t
    have tiny:Bool:=
     decide (len<=1) &&
      match __do_lift with
      | TypeDesc.array len elem=>true
      | x=>false
    match base with
     | some a =>
      if 0<=ki.snd/\ki.snd < ↑len then do
       let __do_lift <- Go.sizeOf elem
       Pure.pure (Value.pointer (some (a.add (ki.snd.toNat*__do_lift))))
      else
       if tiny=true then
        unsupported
         (Unsupported.noEntry "op/indexAddr.an index out of range at an array of length 0 or 1 (ledger 616)")
       else Go.boundsPanic ki.fst ki.snd (↑len) BoundsCode.index
     | none=>Go.boundsPanic ki.fst ki.snd 0 BoundsCode.index:Sem Value):=by
  rintro ⟨base,len,elem⟩
  refine Tame.bind (Tame.underlying t) λ d=>?_
  dsimp only
  split
  ·split
   ·exact Tame.bind (Tame.sizeOf _) λ _=>trivial
   ·split<;>(split<;>first | exact tame_bounds .. | exact trivial)
  ·exact tame_bounds ..
 dsimp only
 split
 ·exact Tame.bind (Tame.sureAddr _) λ _=>Tame.bind trivial hj
 ·exact Tame.bind trivial hj
 ·exact Tame.bind trivial hj
theorem Tame.newRow (t:TypeId) (cs:Array Value):Tame (Go.newRow t cs):=Tame.bind (λ _=>trivial) λ _=>trivial
theorem Tame.box (t:TypeId) (v:Value):Tame (Instr.box t v):=Tame.bind (Tame.newVar _ _) λ _=>trivial
theorem Tame.buildSlice (t:TypeId) (n:Nat) (ps:Array (Nat × Value)):Tame (Instr.buildSlice t n ps):=by
 unfold Instr.buildSlice
 refine Tame.bind (Tame.underlying t) λ d=>?_
 dsimp only
 split
 ·refine Tame.bind (Tame.sizeOf _) λ n=>?_
  rename_i elem
  split
  ·exact trivial
  ·split
   ·refine Tame.bind (Tame.pure _) λ z=>?_
    split
    ·exact Tame.bind (Tame.newRow _ _) λ _=>trivial
    ·exact trivial
   ·refine Tame.bind (Tame.zeroValue _) λ z=>?_
    refine Tame.bind (Tame.pure _) λ z=>?_
    split
    ·exact Tame.bind (Tame.newRow _ _) λ _=>trivial
    ·exact trivial
 ·exact trivial
theorem Tame.getObj' {α:Type} (r:Nat) (k:Obj->Sem α) (h:∀ o,Tame (k o)):Tame (Go.getObj r >>= k):=Tame.bind (λ _=>trivial) h
theorem Tame.len (ts:Array TypeId) (t:TypeId) (args:Array Value):Tame (Builtin.len_ ts t args):=by
 unfold Builtin.len_
 split
 ·refine Tame.bind (Tame.underlying _) λ d=>?_
  split<;>first
   | trivial
   | (refine Tame.bind (Tame.underlying _) λ d=>?_;split<;>trivial)
   | (refine Tame.getObj' _ _ λ o=>?_;split<;>trivial)
 ·trivial
def lenCall (c:Call):Bool:=match c.callee with | .builtin .len=>true | _=>false
def tameOp (o:Oper):Bool:=
 match o.op with
 | .move _ | .assign _ | .load .. | .alloc _ | .indexAddr .. | .box .. | .buildSlice .. => true
 | .call c=>lenCall c
 | _=>false
theorem run_pure_image {α β:Type} {P:Program} {g:α->β}:∀ (s:Sem α) (w w':World) (x:β),(Sem.bind s λ y=>Sem.pure (g y)).run P w=.ok x w'->∃ u,x=g u
 | .pure y,w,w',x,h=>by cases h;exact ⟨_,rfl⟩
 | .load m a k,w,w',x,h=>by
  simp only [Sem.run,Sem.bind] at h
  split at h
  ·exact run_pure_image (k _) _ _ _ h
  ·split at h
   ·exact run_pure_image (k _) _ _ _ h
   ·cases h
 | .store m a v k,w,w',x,h=>by
  simp only [Sem.bind] at h
  cases v<;>simp only [Sem.run] at h<;>first | cases h | skip
  all_goals
   split at h
   ·split at h
    ·cases h
    ·exact run_pure_image k _ _ _ h
   ·split at h
    ·exact run_pure_image k _ _ _ h
    ·cases h
 | .new o k,w,w',x,h=>run_pure_image (k _) _ _ _ h
 | .shape _ k,w,w',x,h=>run_pure_image (k _) _ _ _ h
 | .freeze _ _ k,w,w',x,h=>run_pure_image k _ _ _ h
 | .frozen _ k,w,w',x,h=>run_pure_image (k _) _ _ _ h
 | .getObj r k,w,w',x,h=>by
  simp only [Sem.run,Sem.bind] at h
  split at h
  ·cases h
  ·exact run_pure_image (k _) _ _ _ h
  ·cases h
 | .setObj r o k,w,w',x,h=>by
  simp only [Sem.run,Sem.bind] at h
  split at h
  ·cases h
  ·exact run_pure_image k _ _ _ h
  ·cases h
 | .choose q k,w,w',x,h=>by
  simp only [Sem.run,Sem.bind] at h
  split at h
  ·exact run_pure_image (k _) _ _ _ h
  ·exact run_pure_image (k _) _ _ _ h
 | .sys _ k,w,w',x,h=>run_pure_image (k _) _ _ _ h
 | .program k,w,w',x,h=>run_pure_image (k _) _ _ _ h
 | .mark _ k,w,w',x,h=>run_pure_image k _ _ _ h
 | .halt _,_,_,_,h=>by cases h
theorem tame_value {P:Program} {s:Sem Value} (hs:Tame s) {w:World} {n:Next} {w':World} (h:Sem.run P (s >>= λ x=>Pure.pure (Next.value x)) w=.ok n w'):(∃ u,n=.value u)/\Lasts w w':=
 ⟨run_pure_image s w w' n h,Tame.run _ (Tame.bind (f:=λ x=>Pure.pure (Next.value x)) hs λ _=>trivial) _ _ _ h⟩
theorem tameOp_run {P:Program} {o:Oper} (ho:tameOp o=true) {ρ:Operand->Value} {w:World} {n:Next} {w':World} (h:(execOp ρ o).run P w=.ok n w'):(∃ u,n=.value u)/\Lasts w w':=by
 obtain ⟨dst,op,type,pos,after,guard⟩:=o
 cases op<;>simp only [tameOp] at ho<;>first | cases ho | skip
 ·cases h
  exact ⟨⟨_,rfl⟩,Lasts.refl _⟩
 ·cases h
  exact ⟨⟨_,rfl⟩,Lasts.refl _⟩
 ·exact tame_value (Tame.alloc _) h
 ·exact tame_value (Tame.box _ _) h
 ·exact tame_value (Tame.buildSlice _ _ _) h
 ·exact tame_value (Tame.loadAt _ _) h
 ·exact tame_value (Tame.indexAt _ _ _) h
 ·rename_i c
  obtain ⟨callee,args,ts⟩:=c
  cases callee<;>simp only [lenCall] at ho<;>first | cases ho | skip
  rename_i b
  cases b<;>simp only [] at ho<;>first | cases ho | skip
  exact tame_value (Tame.len _ _ _) h
section
variable {P:Program} {ops:Array Oper} {Q:Exit->Act->World->Prop} {md:Region.Mode}
def behindR (md:Region.Mode) (ops:Array Oper) (listed:Array Bool) (i:Nat):Nat->Nat->Bool
 | 0,_=>false
 | n+1,j=>match ops[j]? with
  | some o=>o.after.any λ e=>Region.binds md e && (e.on==i || (!listed.getD e.on true && behindR md ops listed i n e.on))
  | none=>false
theorem behindR_not {i n j:Nat} {listed:Array Bool} (hi:listed.getD i true=false) (hb:behindR md ops listed i n j=true):j ∉ Region.ready md ops listed:=by
 intro hj
 obtain ⟨_,o,ho,hall⟩:=mem_ready.1 hj
 cases n with
 | zero=>cases hb
 | succ n =>
  simp only [behindR,ho] at hb
  obtain ⟨e,he,h1⟩:=Array.any_eq_true'.1 hb
  simp only [Bool.and_eq_true,Bool.or_eq_true,beq_iff_eq,Bool.not_eq_true'] at h1
  have h2:=hall e he h1.1
  have key:listed.getD e.on true=false->False:=λ h3=>by
   rcases Nat.lt_or_ge e.on listed.size with h' | h'
   ·simp [h'] at h2 h3;rw [h3] at h2;cases h2
   ·simp [Array.getElem?_eq_none h'] at h2
  rcases h1.2 with h3 | h3
  ·exact key (h3 ▸ hi)
  ·exact key h3.1
theorem behindR_keep {i:Nat} {listed:Array Bool} (hi:listed.getD i true=false) {j':Nat} (hj':j'∈Region.ready md ops listed):∀ (n j:Nat),behindR md ops listed i n j=true->behindR md ops (listed.setIfInBounds j' true) i n j=true
 | 0,_,h=>h
 | n+1,j,h=>by
  simp only [behindR] at h ⊢
  split
  ·rename_i o ho
   simp only [ho] at h
   obtain ⟨e,he,h1⟩:=Array.any_eq_true'.1 h
   refine Array.any_eq_true'.2 ⟨e,he,?_⟩
   simp only [Bool.and_eq_true,Bool.or_eq_true,beq_iff_eq,Bool.not_eq_true'] at h1 ⊢
   refine ⟨h1.1,h1.2.imp id λ h3=>⟨?_,behindR_keep hi hj' n _ h3.2⟩⟩
   rw [getD_set_ne true (λ e1=>behindR_not hi (e1 ▸ h3.2) hj')]
   exact h3.1
  ·rename_i ho
   simp only [ho] at h
   cases h
def YieldsR (P:Program) (ops:Array Oper) (o:Oper) (v:Value) (a:Act) (w0:World):Prop:=
 Region.wanted o (yielded ops a.tmps)=true/\∀ w,Lasts w0 w->(execOp a.eval o).run P w=.ok (.value v) w
theorem YieldsR.wpOp {i:Nat} {o:Oper} {v:Value} {a:Act} {w0 w:World} (hi:ops[i]? = some o) (hy:YieldsR P ops o v a w0) (he:Lasts w0 w)
  {K:Act->World->Prop} (h:K (a.put o.dst v) w):wpOp P ops Q i K a w:=by
 unfold Go.wpOp
 simp only [hi]
 obtain ⟨hw,hv⟩:=hy
 simp only [hw,if_true,Oper.wp,hv w he,Oper.upon]
 exact .inl h
theorem wpOp_putR {j:Nat} {oi oj:Oper} {v:Value} {w0:World} (hj:ops[j]? = some oj) (hap:oi.apart ops oj=true) (ht:tameOp oj=true)
  (hsi:∀ cs b,oi.op≠.select cs b) (hsj:∀ cs b,oj.op≠.select cs b)
  (hQ:∀ c a w,Q (.panic c) (a.put oi.dst v) w->Q (.panic c) a w) {K:Act->World->Prop} {a:Act} {w:World}
  (hy:YieldsR P ops oi v a w0) (he:Lasts w0 w) (h:wpOp P ops Q j K (a.put oi.dst v) w) :
  wpOp P ops Q j (λ a' w'=>YieldsR P ops oi v a' w0/\Lasts w0 w'/\K (a'.put oi.dst v) w') a w:=by
 obtain ⟨h1,h2,h3⟩:=Oper.apart_spec hap
 have keep:∀ u,YieldsR P ops oi v (a.put oj.dst u) w0:=λ u=>by
  unfold YieldsR at *
  rw [execOp_put oi hsi a oj.dst u h3,wanted_put oi a oj.dst u h3]
  exact hy
 unfold wpOp at *
 simp only [hj] at *
 rw [wanted_put oj a oi.dst v h1] at h
 split
 ·rename_i hw
  simp only [hw,if_true] at h
  rcases h with h | ⟨hasks,hlets⟩
  case inr=>exact .inr ⟨by unfold Oper.asks at *;rw [execOp_put oj hsj a oi.dst v h1] at hasks;exact hasks,hlets⟩
  refine .inl ?_
  unfold Oper.wp at *
  rw [execOp_put oj hsj a oi.dst v h1] at h
  generalize hr:(execOp a.eval oj).run P w=r at *
  cases r with
  | ok n w' =>
   obtain ⟨⟨u,rfl⟩,hx⟩:=tameOp_run ht hr
   simp only [Oper.upon] at h ⊢
   exact ⟨keep u,he.trans hx,by rw [<- Act.put_comm a v u h2];exact h⟩
  | halt x w' =>
   cases x<;>simp only [Oper.upon] at h ⊢
   case panic u=>exact hQ _ _ _ h
 ·rename_i hw
  simp only [hw] at h
  exact ⟨keep _,he,by rw [<- Act.put_comm a v undef h2];exact h⟩
theorem wpAny_firstR {i nb:Nat} {oi:Oper} {v:Value} {w0:World} (hi:ops[i]? = some oi) (hsel:∀ (j:Nat) (o:Oper) cs b,ops[j]? = some o->o.op≠.select cs b)
  (hQ:∀ c a w,Q (.panic c) (a.put oi.dst v) w->Q (.panic c) a w) :
  ∀ (fuel:Nat) (listed:Array Bool) (a:Act) (w:World),
   (∀ j oj,ops[j]? = some oj->j≠i->listed.getD j true=false->behindR md ops listed i nb j=false->oi.apart ops oj=true/\tameOp oj=true) →
   i∈Region.ready md ops listed->YieldsR P ops oi v a w0->Lasts w0 w →
   wpAny P md ops Q fuel (listed.setIfInBounds i true) (a.put oi.dst v) w->wpAny P md ops Q (fuel+1) listed a w:=by
 intro fuel
 induction fuel with
 | zero =>
  intro listed a w _ hr hy he H
  refine ⟨λ h=>(by rw [h] at hr;cases hr),λ j hj=>?_⟩
  by_cases hji:j=i
  ·subst hji;exact hy.wpOp hi he H
  ·have:=ready_mono hj hji
   rw [H.1] at this
   cases this
 | succ fuel ih =>
  intro listed a w hfree hr hy he H
  refine ⟨λ h=>(by rw [h] at hr;cases hr),λ j hj=>?_⟩
  by_cases hji:j=i
  ·subst hji;exact hy.wpOp hi he H
  ·have h1:=H.2 j (ready_mono hj hji)
   have hiu:=(mem_ready.1 hr).1
   obtain ⟨hjun,oj,hoj,hall⟩:=mem_ready.1 hj
   have hnb:behindR md ops listed i nb j=false:=by
    cases hb:behindR md ops listed i nb j with
    | false=>rfl
    | true=>exact absurd hj (behindR_not hiu hb)
   obtain ⟨hap,htm⟩:=hfree j oj hoj hji hjun hnb
   have h2:=wpOp_putR hoj hap htm (λ cs b=>hsel i oi cs b hi) (λ cs b=>hsel j oj cs b hoj) hQ hy he h1
   have hfree':∀ k ok,ops[k]? = some ok->k≠i->(listed.setIfInBounds j true).getD k true=false →
     behindR md ops (listed.setIfInBounds j true) i nb k=false->oi.apart ops ok=true/\tameOp ok=true:=λ k ok hk hki hun hno=>by
    refine hfree k ok hk hki ?_ ?_
    ·by_cases hjk:j=k
     ·subst hjk;exact hjun
     ·rw [getD_set_ne true hjk] at hun;exact hun
    ·cases hb:behindR md ops listed i nb k with
     | false=>rfl
     | true=>rw [behindR_keep hiu hj nb k hb] at hno;cases hno
   refine wpOp_mono (λ a' w' h3=>ih (listed.setIfInBounds j true) a' w' hfree' (ready_mono hr (Ne.symm hji)) h3.1 h3.2.1 ?_) h2
   rw [Array.setIfInBounds_comm _ _ hji]
   exact h3.2.2
def Only (T:Act->World->Prop):Exit->Act->World->Prop
 | .normal,a,w=>T a w
 | _,_,_=>False
theorem only_no {T:Act->World->Prop}:¬ LetsOut (Only T):=by rintro ⟨_,_,h⟩;exact h
theorem wp_only {o:Oper} {a:Act} {w:World} {K K':Act->World->Prop} {T:Act->World->Prop} (hK:∀ a w,K a w->K' a w) (h:o.wp P a w K (Only T)):o.wp P a w K' Q:=by
 unfold Oper.wp at *
 generalize (execOp a.eval o).run P w=r at *
 cases r with
 | ok n w' =>
  cases n<;>simp only [Oper.upon] at h ⊢ <;>
   first
    | exact hK _ _ h
    | exact Calls.mono h (λ e w'' he=>by
      cases e with
      | returned v=>exact hK _ _ he
      | panicked c=>exact he.elim
      | outgrown=>exact (only_no he).elim)
    | exact Rows.mono h (λ _ _ he=>hK _ _ he)
 | halt x w'=>cases x<;>simp only [Oper.upon] at h ⊢ <;> exact h.elim
theorem any_only {T:Act->World->Prop} (hT:∀ a w,T a w->Q .normal a w):∀ (fuel:Nat) (listed:Array Bool) (a:Act) (w:World),wpAny P md ops (Only T) fuel listed a w->wpAny P md ops Q fuel listed a w
 | 0,_,_,_,h=>⟨h.1,hT _ _ h.2⟩
 | fuel+1,listed,a,w,h=>⟨λ h0=>hT _ _ (h.1 h0),λ i hi=>by
  have h1:=h.2 i hi
  unfold Go.wpOp at *
  split
  ·rename_i ho
   simp only [ho] at h1
   exact any_only hT fuel _ _ _ h1
  ·rename_i o ho
   simp only [ho] at h1
   split
   ·rename_i hw
    simp only [hw,if_true] at h1
    rcases h1 with h1 | h1
    ·exact .inl (wp_only (λ a w=>any_only hT fuel _ a w) h1)
    ·exact (only_no h1.2).elim
   ·rename_i hw
    simp only [hw] at h1
    exact any_only hT fuel _ _ _ h1⟩
def freeR (md:Region.Mode) (ops:Array Oper) (listed:Array Bool) (i:Nat):Bool:=
 match ops[i]? with
 | none=>false
 | some oi=>(List.range ops.size).all λ j=>j==i || listed.getD j true || behindR md ops listed i 12 j || match ops[j]? with
   | some oj=>oi.apart ops oj && tameOp oj
   | none=>true
theorem wpAny_takeR {i:Nat} {oi:Oper} {v:Value} {fuel:Nat} {listed:Array Bool} {a:Act} {w:World} (hi:ops[i]? = some oi)
  (hs:Region.noSelect ops=true) (hf:freeR md ops listed i=true) (hr:(Region.ready md ops listed).contains i=true)
  (hQ:∀ c a w,Q (.panic c) (a.put oi.dst v) w->Q (.panic c) a w) (hy:YieldsR P ops oi v a w)
  (h:wpAny P md ops Q fuel (listed.setIfInBounds i true) (a.put oi.dst v) w):wpAny P md ops Q (fuel+1) listed a w:=
 wpAny_firstR (nb:=12) hi (Region.noSelect_spec hs) hQ fuel listed a w (λ j oj hj hne hun hnb=>by
  simp only [freeR,hi,List.all_eq_true,List.mem_range] at hf
  have h1:=hf j (Array.getElem?_eq_some_iff.1 hj).1
  simp only [hj,Bool.or_eq_true,beq_iff_eq,hne,false_or,hun,hnb,Bool.false_eq_true,Bool.and_eq_true] at h1
  exact h1) (by simpa using hr) hy (Lasts.refl _) h
theorem tkR {d:Option Tmp} {op:Op} {t:TypeId} {ps:String} {af:Array Edge} {g:Option (Nat × Bool)} {v:Value} {fuel:Nat} {listed:Array Bool} {a:Act} {w:World} (i:Nat) (hi:ops[i]? = some ⟨d,op,t,ps,af,g⟩)
  (hc:(Region.noSelect ops && freeR md ops listed i && (Region.ready md ops listed).contains i)=true) (hQ:∀ c a w,Q (.panic c) (a.put d v) w->Q (.panic c) a w)
  (hw:Region.wanted ⟨d,op,t,ps,af,g⟩ (yielded ops a.tmps)=true) (hy:∀ w',Lasts w w'->(execOp a.eval ⟨d,op,t,ps,af,g⟩).run P w'=.ok (.value v) w')
  (h:wpAny P md ops Q fuel (listed.setIfInBounds i true) (a.put d v) w):wpAny P md ops Q (fuel+1) listed a w:=by
 simp only [Bool.and_eq_true] at hc
 exact wpAny_takeR hi hc.1.1 hc.1.2 hc.2 hQ ⟨hw,hy⟩ h
end
section
variable {P:Program} {ops:Array Oper} {Q:Exit->Act->World->Prop} {md:Region.Mode} {d:Option Tmp} {op:Op} {t:TypeId} {ps:String} {af:Array Edge} {g:Option (Tmp × Bool)} {fuel:Nat} {listed:Array Bool} {a:Act} {w:World} {v:Value}
theorem tA (i:Nat) (h:wpAny P md ops Q fuel (listed.setIfInBounds i true) (a.put d v) w) (hi:ops[i]? = some ⟨d,op,t,ps,af,g⟩:=by rfl) (hc:(Region.noSelect ops && Region.free md ops listed i && (Region.ready md ops listed).contains i)=true:=by kernel_rfl)
  (hQ:∀ c a w,Q (.panic c) (a.put d v) w->Q (.panic c) a w:=by exact λ _ _ _ h=>h) (hw:Region.wanted ⟨d,op,t,ps,af,g⟩ (yielded ops a.tmps)=true:=by rfl) (hy:∀ w,(execOp a.eval ⟨d,op,t,ps,af,g⟩).run P w=.ok (.value v) w:=by (intro w;go_simp;try with_reducible rfl)) :
  wpAny P md ops Q (fuel+1) listed a w:=tk i hi hc hQ hw hy h
theorem sA (i:Nat) (h:wpAny P md ops Q fuel (listed.setIfInBounds i true) (a.put d undef) w) (hi:ops[i]? = some ⟨d,op,t,ps,af,g⟩:=by rfl) (hc:(Region.noSelect ops && Region.free md ops listed i && (Region.ready md ops listed).contains i)=true:=by kernel_rfl)
  (hQ:∀ c a w,Q (.panic c) (a.put d undef) w->Q (.panic c) a w:=by exact λ _ _ _ h=>h) (hw:Region.wanted ⟨d,op,t,ps,af,g⟩ (yielded ops a.tmps)=false:=by rfl):wpAny P md ops Q (fuel+1) listed a w:=sk i hi hc hQ hw h
theorem rA (i:Nat) {hy:∀ w',Lasts w w'->(execOp a.eval ⟨d,op,t,ps,af,g⟩).run P w'=.ok (.value v) w'} (h:wpAny P md ops Q fuel (listed.setIfInBounds i true) (a.put d v) w) (hi:ops[i]? = some ⟨d,op,t,ps,af,g⟩:=by rfl) (hc:(Region.noSelect ops && freeR md ops listed i && (Region.ready md ops listed).contains i)=true:=by kernel_rfl)
  (hQ:∀ c a w,Q (.panic c) (a.put d v) w->Q (.panic c) a w:=by exact λ _ _ _ h=>h) (hw:Region.wanted ⟨d,op,t,ps,af,g⟩ (yielded ops a.tmps)=true:=by rfl):wpAny P md ops Q (fuel+1) listed a w:=tkR i hi hc hQ hw hy h
end
end Go.Ev
