/-
  Texts of this claim.
-/
import Derived.Test.YtmfoiaaehkandaaGreatDoorMBGvMin
import GoSem.Op.String
set_option linter.unusedVariables false
set_option linter.unusedSimpArgs false
namespace Go.Ev
abbrev lessB (a b:List UInt8):Bool:=Op.bytesLess a b
theorem lessB_irrefl:∀ a:List UInt8,lessB a a=false
 | []=>rfl
 | a :: x=>by
  have h:=lessB_irrefl x
  simp only [lessB,Op.bytesLess] at h ⊢
  simp [h]
theorem lessB_trans:∀ {a b c:List UInt8},lessB a b=true->lessB b c=true->lessB a c=true
 | _,[],_,h,_=>by simp [lessB,Op.bytesLess] at h
 | _,_ :: _,[],_,h=>by simp [lessB,Op.bytesLess] at h
 | [],_ :: _,_ :: _,_,_=>rfl
 | a :: x,b :: y,c :: z,h1,h2=>by
  have ih:=@lessB_trans x y z
  simp only [lessB,Op.bytesLess,Bool.or_eq_true,decide_eq_true_eq,Bool.and_eq_true,beq_iff_eq] at h1 h2 ih ⊢
  rcases h1 with h1 | ⟨rfl,h1⟩
  ·rcases h2 with h2 | ⟨rfl,h2⟩
   ·exact .inl (UInt8.lt_trans h1 h2)
   ·exact .inl h1
  ·rcases h2 with h2 | ⟨rfl,h2⟩
   ·exact .inl h2
   ·exact .inr ⟨rfl,ih h1 h2⟩
theorem lessB_total:∀ a b:List UInt8,lessB a b=true\/a=b\/lessB b a=true
 | [],[]=>.inr (.inl rfl)
 | [],_ :: _=>.inl rfl
 | _ :: _,[]=>.inr (.inr rfl)
 | a :: x,b :: y=>by
  have ih:=lessB_total x y
  simp only [lessB,Op.bytesLess,Bool.or_eq_true,decide_eq_true_eq,Bool.and_eq_true,beq_iff_eq] at ih ⊢
  rcases Nat.lt_trichotomy a.toNat b.toNat with h | h | h
  ·exact .inl (.inl h)
  ·have e:a=b:=UInt8.toNat_inj.1 h
   subst e
   rcases ih with h | rfl | h
   ·exact .inl (.inr ⟨rfl,h⟩)
   ·exact .inr (.inl rfl)
   ·exact .inr (.inr (.inr ⟨rfl,h⟩))
  ·exact .inr (.inr (.inl h))
theorem lessB_asymm {a b:List UInt8} (h:lessB a b=true):lessB b a=false:=by
 cases h2:lessB b a
 ·rfl
 ·have:=lessB_trans h h2
  rw [lessB_irrefl a] at this
  cases this
theorem lessB_ne {a b:List UInt8} (h:lessB a b=true):a≠b:=by
 rintro rfl
 rw [lessB_irrefl] at h
 cases h
theorem lessB_of_le_lt {a b c:List UInt8} (h1:lessB b a=false) (h2:lessB b c=true):lessB a c=true:=by
 rcases lessB_total a b with h | rfl | h
 ·exact lessB_trans h h2
 ·exact h2
 ·rw [h1] at h;cases h
theorem lessB_of_lt_le {a b c:List UInt8} (h1:lessB a b=true) (h2:lessB c b=false):lessB a c=true:=by
 rcases lessB_total b c with h | rfl | h
 ·exact lessB_trans h1 h
 ·exact h1
 ·rw [h2] at h;cases h
theorem lessB_le_trans {a b c:List UInt8} (h1:lessB b a=false) (h2:lessB c b=false):lessB c a=false:=by
 cases h:lessB c a
 ·rfl
 ·have:=lessB_of_lt_le h h1
  rw [h2] at this
  cases this
theorem lessB_nil (a:List UInt8):lessB a []=false:=by cases a<;>rfl
theorem lessB_pos {a:List UInt8} (h:a≠[]):lessB [] a=true:=by cases a<;>first | rfl | exact absurd rfl h
-- pairs
abbrev Pair:=List UInt8 × List UInt8
def Rising:List Pair->Prop
 | []=>True
 | p :: l=>(∀ q∈l,lessB p.1 q.1=true)/\Rising l
theorem Rising.append:∀ {a b:List Pair},Rising (a++b)↔Rising a/\Rising b/\∀ p∈a,∀ q∈b,lessB p.1 q.1=true
 | [],b=>by simp [Rising]
 | p :: a,b=>by
  have ih:=@Rising.append a b
  simp only [List.cons_append,Rising,ih,List.mem_append,List.mem_cons]
  constructor
  ·rintro ⟨h1,h2,h3,h4⟩
   refine ⟨⟨λ q hq=>h1 q (.inl hq),h2⟩,h3,?_⟩
   rintro x (rfl | hx) q hq
   ·exact h1 q (.inr hq)
   ·exact h4 x hx q hq
  ·rintro ⟨⟨h1,h2⟩,h3,h4⟩
   refine ⟨?_,h2,h3,λ x hx q hq=>h4 x (.inr hx) q hq⟩
   rintro q (hq | hq)
   ·exact h1 q hq
   ·exact h4 p (.inl rfl) q hq
def insP (k v:List UInt8):List Pair->List Pair
 | []=>[(k,v)]
 | p :: l=>if lessB p.1 k then p :: insP k v l else if lessB k p.1 then (k,v) :: p :: l else (k,v) :: l
def delP (k:List UInt8):List Pair->List Pair
 | []=>[]
 | p :: l=>if p.1=k then l else p :: delP k l
def getP (k:List UInt8):List Pair->Option (List UInt8)
 | []=>none
 | p :: l=>if p.1=k then some p.2 else getP k l
theorem insP_pre {k v:List UInt8}:∀ {a b:List Pair},(∀ p∈a,lessB p.1 k=true)->insP k v (a++b)=a++insP k v b
 | [],_,_=>rfl
 | p :: a,b,h=>by
  have h1:=h p (List.mem_cons_self ..)
  simp only [List.cons_append,insP]
  rw [if_pos h1,insP_pre λ q hq=>h q (List.mem_cons_of_mem _ hq)]
theorem insP_post {k v:List UInt8}:∀ {a b:List Pair},(∀ p∈b,lessB k p.1=true)->insP k v (a++b)=insP k v a++b
 | [],[],_=>rfl
 | [],p :: b,h=>by
  have h1:=h p (List.mem_cons_self ..)
  simp only [List.nil_append,insP]
  rw [if_neg (by rw [lessB_asymm h1];simp),if_pos h1]
  rfl
 | p :: a,b,h=>by
  simp only [List.cons_append,insP]
  split
  ·rw [insP_post h];rfl
  ·split<;>rfl
theorem insP_mem {k v:List UInt8}:∀ {l:List Pair} {p:Pair},p∈insP k v l->p=(k,v)\/p∈l
 | [],p,h=>.inl (by simpa [insP] using h)
 | q :: l,p,h=>by
  simp only [insP] at h
  split at h
  ·rcases List.mem_cons.1 h with rfl | h
   ·exact .inr (List.mem_cons_self ..)
   ·exact (insP_mem h).imp id λ h=>List.mem_cons_of_mem _ h
  ·split at h
   ·rcases List.mem_cons.1 h with rfl | h
    ·exact .inl rfl
    ·exact .inr h
   ·rcases List.mem_cons.1 h with rfl | h
    ·exact .inl rfl
    ·exact .inr (List.mem_cons_of_mem _ h)
theorem delP_out {k:List UInt8}:∀ {l:List Pair},(∀ p∈l,p.1≠k)->delP k l=l
 | [],_=>rfl
 | q :: l,h=>by
  simp only [delP]
  rw [if_neg (h q (List.mem_cons_self ..)),delP_out λ p hp=>h p (List.mem_cons_of_mem _ hp)]
theorem delP_pre {k:List UInt8}:∀ {a b:List Pair},(∀ p∈a,p.1≠k)->delP k (a++b)=a++delP k b
 | [],_,_=>rfl
 | p :: a,b,h=>by
  simp only [List.cons_append,delP]
  rw [if_neg (h p (List.mem_cons_self ..)),delP_pre λ q hq=>h q (List.mem_cons_of_mem _ hq)]
theorem delP_post {k:List UInt8}:∀ {a b:List Pair},(∀ p∈b,p.1≠k)->delP k (a++b)=delP k a++b
 | [],b,h=>by rw [List.nil_append,delP_out h];rfl
 | p :: a,b,h=>by
  simp only [List.cons_append,delP]
  split
  ·rfl
  ·rw [delP_post h];rfl
theorem delP_mem {k:List UInt8}:∀ {l:List Pair} {p:Pair},p∈delP k l->p∈l
 | [],_,h=>h
 | q :: l,p,h=>by
  simp only [delP] at h
  split at h
  ·exact List.mem_cons_of_mem _ h
  ·rcases List.mem_cons.1 h with rfl | h
   ·exact List.mem_cons_self ..
   ·exact List.mem_cons_of_mem _ (delP_mem h)
theorem getP_pre {k:List UInt8}:∀ {a b:List Pair},(∀ p∈a,p.1≠k)->getP k (a++b)=getP k b
 | [],_,_=>rfl
 | p :: a,b,h=>by
  simp only [List.cons_append,getP]
  rw [if_neg (h p (List.mem_cons_self ..)),getP_pre λ q hq=>h q (List.mem_cons_of_mem _ hq)]
theorem getP_none {k:List UInt8}:∀ {l:List Pair},(∀ p∈l,p.1≠k)->getP k l=none
 | [],_=>rfl
 | p :: l,h=>by
  simp only [getP]
  rw [if_neg (h p (List.mem_cons_self ..)),getP_none λ q hq=>h q (List.mem_cons_of_mem _ hq)]
theorem getP_post {k:List UInt8}:∀ {a b:List Pair},(∀ p∈b,p.1≠k)->getP k (a++b)=getP k a
 | [],b,h=>by rw [List.nil_append,getP_none h];rfl
 | p :: a,b,h=>by
  simp only [List.cons_append,getP]
  split
  ·rfl
  ·rw [getP_post h]
theorem getP_some {k v:List UInt8}:∀ {l:List Pair},getP k l=some v->(k,v)∈l
 | p :: l,h=>by
  simp only [getP] at h
  split at h
  ·rename_i e
   obtain ⟨a,b⟩:=p
   simp only at e h
   cases h
   rw [<- e]
   exact List.mem_cons_self ..
  ·exact List.mem_cons_of_mem _ (getP_some h)
end Go.Ev
