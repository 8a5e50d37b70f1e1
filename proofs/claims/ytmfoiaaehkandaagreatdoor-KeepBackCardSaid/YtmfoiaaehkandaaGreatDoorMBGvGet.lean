/-
  Texts of this claim.
-/
import Derived.Test.YtmfoiaaehkandaaGreatDoorMBGvFind
set_option linter.unusedVariables false
set_option linter.unusedSimpArgs false
namespace Go.Ev
theorem riseI_take {l:List Item} (h:riseI l=true) (k:Nat):riseI (l.take k)=true:=by
 have:riseI (l.take k++l.drop k)=true:=by rw [List.take_append_drop];exact h
 exact (riseI_append.1 this).1
def stepI (l:List Item) (k:Nat) (hk:k<l.length):Bool:=l[k].right && (decide (k=0) || lessB (l[k-1]'(by omega)).key l[k].key)
theorem riseI_max:∀ {l:List Item} {k:Nat} (hk:k<l.length),riseI l=true->∀ y∈l.take k,lessB y.key l[k].key=true:=by
 intro l k hk h y hy
 have hs:riseI (l.take k++l.drop k)=true:=by rw [List.take_append_drop];exact h
 obtain ⟨_,_,h3⟩:=riseI_append.1 hs
 exact h3 y hy l[k] (by rw [List.drop_eq_getElem_cons hk];exact List.mem_cons_self ..)
theorem riseI_step {l:List Item} {k:Nat} (hk:k<l.length) (h:riseI (l.take k)=true):riseI (l.take (k+1))=stepI l k hk:=by
 rw [List.take_succ_eq_append_getElem hk,Bool.eq_iff_iff]
 unfold stepI
 simp only [Bool.and_eq_true,Bool.or_eq_true,decide_eq_true_eq]
 constructor
 ·intro hr
  obtain ⟨_,h2,h3⟩:=riseI_append.1 hr
  refine ⟨h2,?_⟩
  by_cases h0:k=0
  ·exact .inl h0
  ·refine .inr (h3 _ ?_ _ (List.mem_singleton.2 rfl))
   rw [List.mem_take_iff_getElem]
   exact ⟨k-1,by omega,rfl⟩
 ·rintro ⟨h1,h2⟩
  refine riseI_append.2 ⟨h,h1,λ y hy z hz=>?_⟩
  rw [List.mem_singleton.1 hz]
  rcases h2 with rfl | h2
  ·simp at hy
  ·have hk1:k-1<(l.take k).length\/k=0:=by
    by_cases h0:k=0
    ·exact .inr h0
    ·left;rw [List.length_take];omega
   rcases hk1 with hk1 | rfl
   ·obtain ⟨j,hj,rfl⟩:=List.mem_take_iff_getElem.1 hy
    by_cases he:j=k-1
    ·subst he;exact h2
    ·have hm:=riseI_max hk1 h l[j] (by
      rw [List.mem_take_iff_getElem]
      exact ⟨j,by rw [List.length_take];omega,by simp⟩)
     have e:(l.take k)[k-1]=l[k-1]:=by simp
     rw [e] at hm
     exact lessB_trans hm h2
   ·simp at hy
theorem riseI_fail {l:List Item} {k:Nat} (hk:k<l.length) (h:riseI (l.take k)=true) (hs:stepI l k hk=false):riseI l=false:=by
 cases hr:riseI l
 ·rfl
 ·have:=riseI_take hr (k+1)
  rw [riseI_step hk h,hs] at this
  cases this
open Go.Lib
theorem i64_zero:I64 0:=⟨by decide,by decide⟩
theorem unzig_i64 {n:Nat} (h:n<18446744073709551616):I64 (unzigzag n):=by
 unfold unzigzag I64
 split<;>omega
theorem numP_i64:∀ (b:Bytes) (i acc:Nat),i<=9->acc<2 ^ (7*i)->I64 (numP i acc b).1
 | [],_,_,_,_=>i64_zero
 | c :: r,i,acc,hi,ha=>by
  have hc:c.toNat<256:=c.toNat_lt
  have e6:(2:Nat) ^ (7*(i+1))=128*2 ^ (7*i):=by rw [Nat.mul_add,Nat.pow_add];simp [Nat.mul_comm]
  unfold numP
  split
  ·exact i64_zero
  ·rename_i h9
   split
   ·rename_i h128
    have hi8:i≠9:=λ h=>h9 ⟨h,by omega⟩
    have hl:c.toNat % 128*2 ^ (7*i)<=127*2 ^ (7*i):=Nat.mul_le_mul_right _ (by omega)
    exact numP_i64 r (i+1) _ (by omega) (by rw [e6];omega)
   ·rename_i h128
    split
    ·exact i64_zero
    ·apply unzig_i64
     by_cases hi9:i=9
     ·subst hi9
      have e:(2:Nat) ^ (7*9)=9223372036854775808:=by decide
      rw [e] at ha ⊢
      have:c.toNat<=1:=by
       apply Decidable.byContradiction
       intro h2
       exact h9 ⟨rfl,by omega⟩
      omega
     ·have hl:c.toNat*2 ^ (7*i)<=127*2 ^ (7*i):=Nat.mul_le_mul_right _ (by omega)
      have hp:(2:Nat) ^ (7*i)<=2 ^ 56:=Nat.pow_le_pow_right (by decide) (by omega)
      have e:(2:Nat) ^ 56=72057594037927936:=by decide
      rw [e] at hp
      omega
theorem Rd.var_i64 (r:Rd):I64 r.var.1:=by
 unfold Rd.var
 split
 ·exact i64_zero
 ·split
  ·exact i64_zero
  ·exact numP_i64 _ 0 0 (by omega) (by decide)
theorem Rd.text_len (r:Rd) {m:Nat}:(r.text m).1.length<=m:=by
 unfold Rd.text
 split
 ·simp
 ·rename_i h
  obtain ⟨_,h2,h3,h4⟩:=Rd.count_ok (Decidable.not_not.1 h)
  split
  ·simp
  ·rw [List.length_take,h2]
   omega
def Item.short (x:Item):Prop:=x.key.length<=40/\x.val.length<=60/\I64 x.over/\I64 x.size
theorem Rd.item_ok (r:Rd):r.item.1.short:=by
 unfold Rd.item Item.short
 have h1:(r.text 40).1.length<=40:=r.text_len (m:=40)
 dsimp only
 split
 ·exact ⟨h1,by simp,Rd.var_i64 _,Rd.var_i64 _⟩
 ·exact ⟨h1,Rd.text_len _ (m:=60),i64_zero,i64_zero⟩
theorem Item.lay_short {x:Item} (h:x.short):x.lay.length<=121:=by
 obtain ⟨h1,h2,h3,h4⟩:=h
 have k1:=(varB_len (x.key.length:Int) ⟨by omega,by omega⟩).2
 have k2:=(varB_len (x.val.length:Int) ⟨by omega,by omega⟩).2
 have k3:=(varB_len x.over h3).2
 have k4:=(varB_len x.size h4).2
 have k5:(boolB (x.over != 0)).length=1:=by unfold boolB;split<;>rfl
 unfold Item.lay textB
 split<;>simp only [List.length_append]<;>omega
theorem layI_short:∀ {l:List Item},(∀ x∈l,x.short)->(layI l).length<=121*l.length
 | [],_=>by simp [layI]
 | x :: l,h=>by
  have h1:=Item.lay_short (h x (List.mem_cons_self ..))
  have h2:=layI_short λ y hy=>h y (List.mem_cons_of_mem _ hy)
  simp only [layI,List.length_append,List.length_cons]
  omega
theorem Rd.items_step {r:Rd} (h:r.e=0/\r.b≠[]):r.items=(r.item.1 :: r.item.2.items.1,r.item.2.items.2):=by
 rw [Rd.items,dif_pos h]
 by_cases h2:r.item.2.e=0
 ·rw [dif_pos h2]
 ·rw [dif_neg h2]
  have:r.item.2.items=([],r.item.2):=by
   rw [Rd.items,dif_neg (λ hc=>h2 hc.1)]
  rw [this]
theorem Rd.items_end {r:Rd} (h:¬ (r.e=0/\r.b≠[])):r.items=([],r):=by rw [Rd.items,dif_neg h]
end Go.Ev
