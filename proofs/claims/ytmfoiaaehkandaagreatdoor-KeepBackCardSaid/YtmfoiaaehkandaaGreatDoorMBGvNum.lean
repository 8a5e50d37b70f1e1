/-
  Texts of this claim.
-/
import Derived.Test.YtmfoiaaehkandaaGreatDoorMBGvMin
import Derived.Lib.Varint
import Derived.Lib.VarintDec
import Derived.Lib.Zigzag
set_option linter.unusedVariables false
set_option linter.unusedSimpArgs false
namespace Go.Ev
open Go.Lib
abbrev Bytes:=List UInt8
def varB (v:Int):Bytes:=uvarint (zigzag v)
def varsB:List Int->Bytes
 | []=>[]
 | v :: l=>varB v++varsB l
def textB (s:Bytes):Bytes:=varB s.length++s
def textsB:List Bytes->Bytes
 | []=>[]
 | s :: l=>textB s++textsB l
def boolB (b:Bool):Bytes:=if b then [1] else [0]
def I64 (v:Int):Prop:=-9223372036854775808<=v/\v<=9223372036854775807
theorem unzig (v:Int):unzigzag (zigzag v)=v:=by
 unfold zigzag unzigzag
 split<;>split<;>omega
def numP (i acc:Nat):Bytes->Int × Bytes × Int
 | []=>(0,[],5)
 | c :: r =>
  if i=9/\1<c.toNat then (0,[],4)
  else if 128<=c.toNat then numP (i+1) (acc+c.toNat % 128*2 ^ (7*i)) r
  else if c.toNat=0/\0<i then (0,[],4)
  else (unzigzag (acc+c.toNat*2 ^ (7*i)),r,0)
theorem numP_uvarint:∀ (x i acc:Nat) (r:Bytes),i<=9->(0<i->0<x)->x*2 ^ (7*i)<18446744073709551616->numP i acc (uvarint x++r)=(unzigzag (acc+x*2 ^ (7*i)),r,0):=by
 intro x
 induction x using Nat.strongRecOn with
 | ind x ih =>
  intro i acc r hi hx hb
  have h9:i=9->x<2:=by
   rintro rfl
   have:(2:Nat) ^ (7*9)=9223372036854775808:=by decide
   rw [this] at hb
   omega
  by_cases h:x<128
  ·rw [uvarint_small h]
   have ht:(x.toUInt8).toNat=x:=by
    rw [Nat.toUInt8,UInt8.toNat_ofNat_of_lt' (by show x<256;omega)]
   simp only [List.singleton_append,numP,ht]
   rw [if_neg (by intro ⟨h1,h2⟩;have:=h9 h1;omega),if_neg (by omega),if_neg (by intro ⟨h1,h2⟩;have:=hx h2;omega)]
  ·rw [uvarint_big (by omega)]
   have ht:((x % 128+128).toUInt8).toNat=x % 128+128:=by
    rw [Nat.toUInt8,UInt8.toNat_ofNat_of_lt' (by show x % 128+128<256;omega)]
   simp only [List.cons_append,numP,ht]
   rw [if_neg (by intro ⟨h1,h2⟩;have:=h9 h1;omega),if_pos (by omega)]
   have e1:(2:Nat) ^ (7*(i+1))=128*2 ^ (7*i):=by rw [Nat.mul_add,Nat.pow_add];simp [Nat.mul_comm]
   have hle:x / 128*128<=x:=Nat.div_mul_le_self x 128
   have hp:0<2 ^ (7*i):=Nat.pow_pos (by decide)
   have h2:x / 128*2 ^ (7*(i+1))<=x*2 ^ (7*i):=by
    rw [e1,<- Nat.mul_assoc]
    exact Nat.mul_le_mul_right _ hle
   have hi8:i+1<=9:=by
    by_cases h8:i=9
    ·have:=h9 h8;omega
    ·omega
   rw [ih (x / 128) (by omega) (i+1) _ r hi8 (λ _=>by omega) (by omega)]
   refine Prod.ext ?_ rfl
   show unzigzag _=unzigzag _
   congr 1
   have e3:(x % 128+128) % 128=x % 128:=by omega
   rw [e3,e1]
   have e4:x / 128*(128*2 ^ (7*i))=(x / 128*128)*2 ^ (7*i):=by rw [Nat.mul_assoc]
   rw [e4,Nat.add_assoc,<- Nat.add_mul]
   congr 2
   omega
theorem zigzag_lt64 {v:Int} (h:I64 v):zigzag v<18446744073709551616:=zigzag_lt h.1 h.2
theorem numP_var (v:Int) (h:I64 v) (r:Bytes):numP 0 0 (varB v++r)=(v,r,0):=by
 unfold varB
 rw [numP_uvarint _ 0 0 r (by omega) (by omega) (by simpa using zigzag_lt64 h)]
 simp [unzig]
theorem varB_len (v:Int) (h:I64 v):1<=(varB v).length/\(varB v).length<=10:=⟨uvarint_pos _,uvarint_length64 (zigzag_lt64 h)⟩
theorem varB_small {n:Nat} (h:n<64):(varB n).length=1:=by
 unfold varB
 rw [uvarint_small (by unfold zigzag;split<;>omega)]
 rfl
theorem numP_short:∀ (b:Bytes) (i acc:Nat),(numP i acc b).2.2=0->(numP i acc b).2.1.length<b.length
 | [],_,_,h=>by simp [numP] at h
 | c :: r,i,acc,h=>by
  unfold numP at h ⊢
  split at h
  ·simp at h
  ·split at h
   ·rename_i h1 h2
    rw [if_neg h1,if_pos h2]
    have:=numP_short r _ _ h
    simp only [List.length_cons]
    omega
   ·split at h
    ·simp at h
    ·rename_i h1 h2 h3
     rw [if_neg h1,if_neg h2,if_neg h3]
     simp
structure Rd where
 b:Bytes
 e:Int
deriving Inhabited
def Rd.off (r:Rd):Bool:=r.e != 0
def Rd.var (r:Rd):Int × Rd:=
 if r.e≠0 then (0,r)
 else if (numP 0 0 r.b).2.2≠0 then (0,⟨r.b,(numP 0 0 r.b).2.2⟩)
 else ((numP 0 0 r.b).1,⟨(numP 0 0 r.b).2.1,0⟩)
def Rd.count (most:Int) (r:Rd):Int × Rd:=
 if r.var.2.e≠0 then (0,r.var.2)
 else if r.var.1<0 then (0,⟨r.var.2.b,4⟩)
 else if most<r.var.1 then (0,⟨r.var.2.b,2⟩)
 else (r.var.1,r.var.2)
def Rd.text (most:Int) (r:Rd):Bytes × Rd:=
 if (r.count most).2.e≠0 then ([],(r.count most).2)
 else if ((r.count most).2.b.length:Int)<(r.count most).1 then ([],⟨(r.count most).2.b,5⟩)
 else ((r.count most).2.b.take (r.count most).1.toNat,⟨(r.count most).2.b.drop (r.count most).1.toNat,0⟩)
def Rd.bool (r:Rd):Bool × Rd:=
 if r.e≠0 then (false,r)
 else match r.b with
  | []=>(false,⟨[],5⟩)
  | c :: t=>if 1<c.toNat then (false,⟨c :: t,4⟩) else (c.toNat==1,⟨t,0⟩)
def Rd.end (r:Rd):Int:=if r.e≠0 then r.e else if r.b≠[] then 4 else 0
theorem Rd.var_var (v:Int) (h:I64 v) (t:Bytes):Rd.var ⟨varB v++t,0⟩=(v,⟨t,0⟩):=by
 unfold Rd.var
 simp [numP_var v h t]
theorem Rd.count_var (v most:Int) (h:I64 v) (h0:0<=v) (hm:v<=most) (t:Bytes):Rd.count most ⟨varB v++t,0⟩=(v,⟨t,0⟩):=by
 unfold Rd.count
 rw [Rd.var_var v h t]
 rw [if_neg (by simp),if_neg (by simp;omega),if_neg (by simp;omega)]
theorem Rd.text_text (s:Bytes) (most:Int) (hm:s.length<=most) (hs:s.length<=9223372036854775807) (t:Bytes):Rd.text most ⟨textB s++t,0⟩=(s,⟨t,0⟩):=by
 unfold Rd.text textB
 rw [List.append_assoc,Rd.count_var _ _ ⟨by omega,by omega⟩ (by omega) hm]
 rw [if_neg (by simp),if_neg (by simp;omega)]
 simp
theorem Rd.bool_bool (x:Bool) (t:Bytes):Rd.bool ⟨boolB x++t,0⟩=(x,⟨t,0⟩):=by
 cases x<;>simp [Rd.bool,boolB]
theorem Rd.var_off {r:Rd} (h:r.e≠0):r.var=(0,r):=by unfold Rd.var;rw [if_pos h]
theorem Rd.count_off {r:Rd} (h:r.e≠0) (m:Int):r.count m=(0,r):=by unfold Rd.count;rw [Rd.var_off h,if_pos h]
theorem Rd.text_off {r:Rd} (h:r.e≠0) (m:Int):r.text m=([],r):=by unfold Rd.text;rw [Rd.count_off h,if_pos h]
theorem Rd.bool_off {r:Rd} (h:r.e≠0):r.bool=(false,r):=by unfold Rd.bool;rw [if_pos h]
theorem Rd.var_short {r:Rd} (h:r.var.2.e=0):r.e=0/\r.var.2.b.length<r.b.length:=by
 unfold Rd.var at h ⊢
 by_cases h0:r.e≠0
 ·rw [if_pos h0] at h;exact absurd h h0
 ·rw [if_neg h0] at h ⊢
  by_cases h1:(numP 0 0 r.b).2.2≠0
  ·rw [if_pos h1] at h;exact absurd h h1
  ·rw [if_neg h1]
   exact ⟨Decidable.not_not.1 h0,numP_short _ _ _ (Decidable.not_not.1 h1)⟩
theorem Rd.var_le (r:Rd):r.var.2.b.length<=r.b.length:=by
 by_cases h:r.var.2.e=0
 ·exact Nat.le_of_lt (Rd.var_short h).2
 ·unfold Rd.var at h ⊢
  by_cases h0:r.e≠0
  ·rw [if_pos h0];exact Nat.le_refl _
  ·rw [if_neg h0] at h ⊢
   by_cases h1:(numP 0 0 r.b).2.2≠0
   ·rw [if_pos h1];exact Nat.le_refl _
   ·rw [if_neg h1] at h;simp at h
theorem Rd.count_le (r:Rd) (m:Int):(r.count m).2.b.length<=r.b.length:=by
 have h:=r.var_le
 unfold Rd.count
 split
 ·exact h
 ·split
  ·exact h
  ·split
   ·exact h
   ·exact h
theorem Rd.count_ok {r:Rd} {m:Int} (h:(r.count m).2.e=0):r.var.2.e=0/\r.count m=r.var/\0<=r.var.1/\r.var.1<=m:=by
 unfold Rd.count at h ⊢
 split at h
 ·rename_i h1;exact absurd h h1
 ·split at h
  ·simp at h
  ·split at h
   ·simp at h
   ·rename_i h1 h2 h3
    rw [if_neg h1,if_neg h2,if_neg h3]
    exact ⟨h,rfl,by omega,by omega⟩
theorem Rd.text_le (r:Rd) (m:Int):(r.text m).2.b.length<=r.b.length:=by
 have h:=r.count_le m
 unfold Rd.text
 split
 ·exact h
 ·split
  ·exact h
  ·simp only [List.length_drop];omega
theorem Rd.text_short {r:Rd} {m:Int} (h:(r.text m).2.e=0):(r.text m).2.b.length<r.b.length:=by
 unfold Rd.text at h ⊢
 split at h
 ·rename_i h1;exact absurd h h1
 ·split at h
  ·simp at h
  ·rename_i h1 h2
   rw [if_neg h1,if_neg h2]
   obtain ⟨k1,k2,_⟩:=Rd.count_ok (Decidable.not_not.1 h1)
   have:=(Rd.var_short k1).2
   simp only [List.length_drop]
   rw [k2]
   omega
theorem Rd.bool_le (r:Rd):r.bool.2.b.length<=r.b.length:=by
 unfold Rd.bool
 split
 ·exact Nat.le_refl _
 ·split
  ·simp
  ·rename_i c t h
   split<;>simp [h]
end Go.Ev
