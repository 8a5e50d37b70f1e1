/-
  Texts of this claim.
-/
import Derived.Test.YtmfoiaaehkandaaGreatDoorMBEvBytes
import Derived.Test.YtmfoiaaehkandaaGreatDoorMBEvLayB
import Derived.Test.YtmfoiaaehkandaaGreatDoorMBGvNum
import Derived.BigQuiet
import Derived.Deep.QuietTactic
import Derived.Laws.ShiftsVar
import Derived.Lib.EndianBits
import Derived.Lib.VarintBits
set_option linter.unusedVariables false
set_option linter.unusedSimpArgs false
set_option maxHeartbeats 1000000
set_option maxRecDepth 100000
namespace Go.Ev
open Go.Proofs Go.RowKit Go.Lib
theorem and127 (c:UInt8):bits .and .u8 (c.toNat:Int) 127=((c.toNat % 128:Nat):Int):=by
 have:=u8_and127 (c.toNat:Int) (by omega) (by have:=c.toNat_lt;omega)
 rw [this]
 omega
theorem and128_nat:∀ a:Fin 256,(a.val &&& 128)=if 128<=a.val then 128 else 0:=by decide
theorem and128 (c:UInt8):bits .and .u8 (c.toNat:Int) 128=if 128<=c.toNat then 128 else 0:=by
 have hn:c.toNat<256:=c.toNat_lt
 have h:=(bits_nat .u8 8 (by decide) wraps_u8 c.toNat 128 (by simpa using hn) (by decide)).1
 have e:((128:Nat):Int)=128:=rfl
 rw [e] at h
 have h2:=and128_nat ⟨c.toNat,hn⟩
 simp only at h2
 rw [h,h2]
 split<;>rfl
theorem or_step (a k:Nat) (c:UInt8) (hk:k<=9) (ha:a<2 ^ (7*k)) (hc:k=9->c.toNat<=1) :
  bits .or .u64 (a:Int) (IntKind.u64.wrap (IntKind.u64.wrap (bits .and .u8 (c.toNat:Int) 127)*2 ^ (7*k)))=((a+c.toNat % 128*2 ^ (7*k):Nat):Int)/\a+c.toNat % 128*2 ^ (7*k)<2 ^ (7*k+7):=by
 have hc':c.toNat<256:=c.toNat_lt
 rw [and127]
 have hp:(2:Nat) ^ (7*k)<=2 ^ 63:=Nat.pow_le_pow_right (by decide) (by omega)
 have hm:c.toNat % 128*2 ^ (7*k)<2 ^ 64:=by
  by_cases h9:k=9
  ·have:=hc h9
   subst h9
   have e:(2:Nat) ^ (7*9)=9223372036854775808:=by decide
   have e2:(2:Nat) ^ 64=18446744073709551616:=by decide
   rw [e,e2]
   omega
  ·have h56:(2:Nat) ^ (7*k)<=2 ^ 56:=Nat.pow_le_pow_right (by decide) (by omega)
   have e:(2:Nat) ^ 56=72057594037927936:=by decide
   have e2:(2:Nat) ^ 64=18446744073709551616:=by decide
   have hl:c.toNat % 128*2 ^ (7*k)<=127*2 ^ (7*k):=Nat.mul_le_mul_right _ (by omega)
   rw [e] at h56
   rw [e2]
   omega
 have e1:IntKind.u64.wrap ((c.toNat % 128:Nat):Int)=((c.toNat % 128:Nat):Int):=by rw [IntKind.wrap_u64];omega
 have e3:(((c.toNat % 128:Nat):Int)*2 ^ (7*k))=((c.toNat % 128*2 ^ (7*k):Nat):Int):=by push_cast;rfl
 have e4:IntKind.u64.wrap ((c.toNat % 128*2 ^ (7*k):Nat):Int)=((c.toNat % 128*2 ^ (7*k):Nat):Int):=by
  have e2:(2:Nat) ^ 64=18446744073709551616:=by decide
  rw [e2] at hm
  rw [IntKind.wrap_u64];omega
 rw [e1,e3,e4]
 refine ⟨?_,?_⟩
 ·have:=bits_join_low .u64 64 (by decide) wraps_u64 (7*k) (a:Int) ((c.toNat % 128*2 ^ (7*k):Nat):Int) (by omega) (by exact_mod_cast ha) (by
   have e2:(2:Nat) ^ 63=9223372036854775808:=by decide
   have e5:(2:Int) ^ 64=18446744073709551616:=by decide
   rw [e5];omega) (by omega) (by
    have:(c.toNat % 128*2 ^ (7*k)) % 2 ^ (7*k)=0:=Nat.mul_mod_left _ _
    exact_mod_cast this) (by exact_mod_cast hm)
  rw [this]
  push_cast
  rfl
 ·have e6:(2:Nat) ^ (7*k+7)=128*2 ^ (7*k):=by rw [Nat.pow_add];simp [Nat.mul_comm]
  rw [e6]
  have hl:c.toNat % 128*2 ^ (7*k)<=127*2 ^ (7*k):=Nat.mul_le_mul_right _ (by omega)
  omega
theorem drop_at {b:Bytes} {k:Nat} (h:k<b.length):b.drop k=b[k] :: b.drop (k+1):=List.drop_eq_getElem_cons h
theorem i64_xor_ones (x:Nat) (hx:x<9223372036854775808):bits .xor .i64 (x:Int) (-1) = -(x:Int)-1:=by
 rw [<- i64_not x hx]
 show IntKind.i64.wrap ((BitVec.ofInt 64 (x:Int) ^^^ BitVec.ofInt 64 (-1)).toNat:Int)=IntKind.i64.wrap ((BitVec.ofInt 64 (-1) ^^^ BitVec.ofInt 64 (x:Int)).toNat:Int)
 rw [BitVec.xor_comm]
theorem i64_xor_zero (x:Nat) (hx:x<9223372036854775808):bits .xor .i64 (x:Int) 0=x:=by
 show IntKind.i64.wrap ((BitVec.ofInt 64 (x:Int) ^^^ BitVec.ofInt 64 0).toNat:Int)=_
 have h0:BitVec.ofInt 64 0=0#64:=by decide
 have h2:(BitVec.ofInt 64 (x:Int)).toNat=x:=by
  rw [BitVec.ofInt_natCast,BitVec.toNat_ofNat];exact Nat.mod_eq_of_lt (by omega)
 rw [h0,BitVec.xor_zero,h2,IntKind.wrap_i64]
 omega
theorem unzig_bits (n:Nat) (hn:n<18446744073709551616):bits .xor .i64 (IntKind.i64.wrap ((n:Int) / 2)) (IntKind.i64.wrap (-(IntKind.i64.wrap (bits .and .u64 (n:Int) 1))))=unzigzag n:=by
 rw [u64_and1 _ (by omega) (by omega)]
 have e1:IntKind.i64.wrap ((n:Int) / 2)=((n / 2:Nat):Int):=by rw [IntKind.wrap_i64];omega
 rw [e1]
 unfold unzigzag
 rcases Nat.mod_two_eq_zero_or_one n with h | h
 ·have h':(n:Int) % 2=0:=by omega
  rw [h',if_pos h]
  have:IntKind.i64.wrap (-(IntKind.i64.wrap 0))=0:=by decide
  rw [this,i64_xor_zero _ (by omega)]
 ·have h':(n:Int) % 2=1:=by omega
  rw [h',if_neg (by omega)]
  have:IntKind.i64.wrap (-(IntKind.i64.wrap 1)) = -1:=by decide
  rw [this,i64_xor_ones _ (by omega)]
theorem extract_drop (b:Bytes) (k:Nat):(ByteArray.mk b.toArray).extract k b.length=⟨(b.drop k).toArray⟩:=by
 rw [ByteArray.extract_mk,List.take_of_length_le (by simp)]
theorem num_ret {b:Bytes} {m k:Nat} {s:ByteArray} {x:Int} (Hu:Hid (bits .xor .i64 (IntKind.i64.wrap ((m:Int) / 2)) (IntKind.i64.wrap (-(IntKind.i64.wrap (bits .and .u64 (m:Int) 1))))=unzigzag m))
  (hN:Hid (numP 0 0 b=(unzigzag m,b.drop k,0))) (hx:x=bits .xor .i64 (wrap64 ((m:Int) / 2)) (wrap64 (-(wrap64 (bits .and .u64 (m:Int) 1))))) (hs:s=(ByteArray.mk b.toArray).extract k b.length) :
  Ending.returned (.tuple #[.int .i64 x,.string s,.int .i64 0])=.returned (.tuple #[.int .i64 (numP 0 0 b).1,.string ⟨(numP 0 0 b).2.1.toArray⟩,.int .i64 (numP 0 0 b).2.2]):=by
 rw [hN.out,hx,<- IntWalk.i64_left,<- IntWalk.i64_left,<- IntWalk.i64_left,Hu.out,hs,extract_drop]
theorem number_any (b:Bytes) (w:World) (hb:b.length<=9223372036854775807) :
  Calls Tryz.prog 153 #[.string ⟨b.toArray⟩] w λ e w'=>e=.returned (.tuple #[.int .i64 (numP 0 0 b).1,.string ⟨(numP 0 0 b).2.1.toArray⟩,.int .i64 (numP 0 0 b).2.2])/\∃ n,w'=w.drewN n:=by
 go_enter Tryz.func153,Tryz.ntmps153
 go_wp2
 go_loop [5,6] (λ n i=>∃ (a k:Nat),k<=9/\a<2 ^ (7*k)/\i=.int .i64 (k:Int)/\n=.int .u64 (a:Int)/\k<=b.length/\Hid (numP k a (b.drop k)=numP 0 0 b)) (λ _ i=>10-(Go.RowKit.intOf i).toNat)
 case atStart=>exact ⟨0,0,by omega,by decide,rfl,rfl,by omega,rfl⟩
 case round =>
  obtain ⟨a,k,hk,ha,rfl,rfl,hkl,hN⟩:=hrel
  by_cases hlt:k<b.length
  ·have hlt':¬ ((b.length:Int)<=(k:Int)):=by omega
   obtain ⟨c,hc⟩:∃ c:UInt8,(ByteArray.mk b.toArray)[k]'(by simpa [ByteArray.size] using hlt)=c:=⟨_,rfl⟩
   have hd:b.drop k=c :: b.drop (k+1):=by rw [drop_at hlt,<- hc];rfl
   have hc':c.toNat<256:=c.toNat_lt
   rw [hd] at hN
   have Hd:=hid hd
   clear hd
   by_cases h9:k=9/\1<c.toNat
   ·obtain ⟨rfl,h1⟩:=h9
    go_wp2
    go_ret3
    exact ⟨by rw [<- hN.out];simp [numP,h1],0,rfl⟩
   ·have hs:=or_step a k c hk ha (λ h=>by
     apply Decidable.byContradiction
     intro h2
     exact h9 ⟨h,by omega⟩)
    obtain ⟨hs1,hs2⟩:=hs
    have H2:=hid hs2
    clear hs2
    by_cases h128:128<=c.toNat
    ·have hk9:((k:Int)==9)=false:=by
      rw [beq_eq_false_iff_ne]
      intro h
      exact h9 ⟨by omega,by omega⟩
     have hb1:bits .and .u8 (c.toNat:Int) 128=128:=by rw [and128,if_pos h128]
     have hN':Hid (numP (k+1) (a+c.toNat % 128*2 ^ (7*k)) (b.drop (k+1))=numP 0 0 b):=by
      show _=_
      rw [<- hN.out]
      conv=>rhs;unfold numP
      rw [if_neg h9,if_pos h128]
     clear hN
     have hk8:k≠9:=λ h=>h9 ⟨h,by omega⟩
     go_wp2
     go_round
     case rel=>exact ⟨_,k+1,by omega,by rw [Nat.mul_add];exact H2.out,by go_num,rfl,by omega,hN'⟩
     case measure=>simp [Go.RowKit.intOf];omega
    ·have hb1:bits .and .u8 (c.toNat:Int) 128=0:=by rw [and128,if_neg h128]
     by_cases h0:c.toNat=0/\0<k
     ·have hN':Hid (numP 0 0 b=(0,[],4)):=by
       show _=_
       rw [<- hN.out]
       unfold numP
       rw [if_neg h9,if_neg h128,if_pos h0]
      have hc0:((c.toNat:Int)==0)=true:=by rw [beq_iff_eq];omega
      have hk0:(0:Int)<(k:Int):=by omega
      clear hN h0
      go_wp2
      all_goals (go_ret3;exact ⟨by rw [hN'.out]<;>rfl,0,rfl⟩)
     ·have hN':Hid (numP 0 0 b=(unzigzag (a+c.toNat*2 ^ (7*k)),b.drop (k+1),0)):=by
       show _=_
       rw [<- hN.out]
       unfold numP
       rw [if_neg h9,if_neg h128,if_neg h0]
      have hm:c.toNat % 128=c.toNat:=Nat.mod_eq_of_lt (by omega)
      rw [hm] at hs1 H2
      have hlt64:a+c.toNat*2 ^ (7*k)<18446744073709551616:=by
       by_cases hk9:k=9
       ·subst hk9
        have e:(2:Nat) ^ (7*9)=9223372036854775808:=by decide
        rw [e] at ha ⊢
        have:c.toNat<=1:=by
         apply Decidable.byContradiction
         intro h2
         exact h9 ⟨rfl,by omega⟩
        omega
       ·have h2:=H2.out
        have:(2:Nat) ^ (7*k+7)<=2 ^ 63:=Nat.pow_le_pow_right (by decide) (by omega)
        have e:(2:Nat) ^ 63=9223372036854775808:=by decide
        rw [e] at this
        omega
      have Hu:=hid (unzig_bits _ hlt64)
      clear hN hlt64
      obtain ⟨m,hm⟩:∃ m:Nat,a+c.toNat*2 ^ (7*k)=m:=⟨_,rfl⟩
      rw [hm] at hs1 Hu hN'
      clear hm H2
      by_cases hk9:k=9
      ·subst hk9
       have hc0:((c.toNat:Int)==0)=false:=by
        rw [beq_eq_false_iff_ne]
        intro h
        exact h0 ⟨by omega,by omega⟩
       have e:(2:Int) ^ (7*9)=9223372036854775808:=by decide
       rw [e] at hs1
       have hc1:¬ (1<(c.toNat:Int)):=by
        intro h2
        exact h9 ⟨rfl,by omega⟩
       clear h0 h9 e
       go_wp2
       go_quiet (fail)
       go_wp2
       go_ret3
       exact ⟨num_ret Hu hN' rfl rfl,_,rfl⟩
      ·have hk9':((k:Int)==9)=false:=by rw [beq_eq_false_iff_ne];omega
       by_cases hk0:0<k
       ·have hc0:((c.toNat:Int)==0)=false:=by
         rw [beq_eq_false_iff_ne]
         intro h
         exact h0 ⟨by omega,hk0⟩
        clear h0 h9
        go_wp2
        go_quiet (fail)
        go_wp2
        go_ret3
        exact ⟨num_ret Hu hN' rfl rfl,_,rfl⟩
       ·have hk0':k=0:=by omega
        subst hk0'
        have e:(2:Int) ^ (7*0)=1:=by decide
        rw [e,Int.mul_one] at hs1
        have hne:¬ b=[]:=λ h=>by rw [h] at hlt;simp at hlt
        clear h0 h9 e
        by_cases hz:c.toNat=0
        ·have hc0:((c.toNat:Int)==0)=true:=by rw [beq_iff_eq];omega
         clear hz
         go_wp2
         go_quiet (fail)
         go_wp2
         go_ret3
         exact ⟨num_ret Hu hN' rfl rfl,_,rfl⟩
        ·have hc0:((c.toNat:Int)==0)=false:=by rw [beq_eq_false_iff_ne];omega
         clear hz
         go_wp2
         go_quiet (fail)
         go_wp2
         go_ret3
         exact ⟨num_ret Hu hN' rfl rfl,_,rfl⟩
  ·have hlt':((b.length:Int)<=(k:Int)):=by omega
   go_wp2
   go_ret3
   refine ⟨?_,0,rfl⟩
   rw [<- hN.out,List.drop_of_length_le (by omega)]
   rfl
abbrev strV (l:Bytes):Value:=.string ⟨l.toArray⟩
def RdAt (w:World) (r:Nat) (R:Rd):Prop:=Blk w r 248 #[strV R.b,.int .i64 R.e]/\R.b.length<=9223372036854775807
def RdTo (r:Nat) (w:World) (v:Value) (R:Rd) (e:Ending) (w':World):Prop:=e=.returned v/\RdAt w' r R/\Keeps (· = r) w w'
theorem RdAt.c0 {w:World} {r:Nat} {R:Rd} (h:RdAt w r R):w.cell? ⟨r,0,none⟩=some (.string ⟨R.b.toArray⟩):=h.1.cell 0
theorem RdAt.c1 {w:World} {r:Nat} {R:Rd} (h:RdAt w r R):w.cell? ⟨r,1,none⟩=some (.int .i64 R.e):=h.1.cell 1
theorem RdAt.f0 {w:World} {r:Nat} {R:Rd} (h:RdAt w r R):w.frozen? ⟨r,0,none⟩=false:=h.1.frozen 0
theorem RdAt.f1 {w:World} {r:Nat} {R:Rd} (h:RdAt w r R):w.frozen? ⟨r,1,none⟩=false:=h.1.frozen 1
theorem RdAt.setB {w:World} {r:Nat} {R:Rd} (h:RdAt w r R) {b:Bytes} (hb:b.length<=9223372036854775807):RdAt (w.setCell ⟨r,0,none⟩ (.string ⟨b.toArray⟩)) r ⟨b,R.e⟩:=⟨h.1.set 0 _,hb⟩
theorem RdAt.setE {w:World} {r:Nat} {R:Rd} (h:RdAt w r R) (e:Int):RdAt (w.setCell ⟨r,1,none⟩ (.int .i64 e)) r ⟨R.b,e⟩:=⟨h.1.set 1 _,h.2⟩
theorem RdAt.drewN {w:World} {r:Nat} {R:Rd} (h:RdAt w r R) (n:Nat):RdAt (w.drewN n) r R:=h
theorem RdAt.keeps {S:Nat->Prop} {w a:World} {r:Nat} {R:Rd} (h:RdAt w r R) (hk:Keeps S w a) (hg:¬ S r):RdAt a r R:=⟨h.1.keeps hk hg,h.2⟩
theorem ret_i {a b:Int} (h:a=b):Ending.returned (.int .i64 a)=.returned (.int .i64 b):=by rw [h]
theorem ret_b {a b:Bool} (h:a=b):Ending.returned (.bool a)=.returned (.bool b):=by rw [h]
theorem isE {l:Bytes} (h:l≠[]):(!l.isEmpty)=true:=by cases l<;>first | rfl | exact absurd rfl h
theorem off_any (r:Nat) (R:Rd) (w:World) (h:RdAt w r R) :
  Calls Tryz.prog 152 #[.pointer (some ⟨r,0,none⟩)] w λ e w'=>e=.returned (.bool R.off)/\w'=w:=by
 have c1:=h.c1
 go_enter Tryz.func152,Tryz.ntmps152
 go_wp2
 go_ret
 exact ⟨rfl,rfl⟩
theorem err_any (r:Nat) (R:Rd) (w:World) (h:RdAt w r R) :
  Calls Tryz.prog 98 #[.pointer (some ⟨r,0,none⟩)] w λ e w'=>e=.returned (.int .i64 R.e)/\w'=w:=by
 have c1:=h.c1
 go_enter Tryz.func98,Tryz.ntmps98
 go_wp2
 go_ret
 exact ⟨rfl,rfl⟩
theorem end_any (r:Nat) (R:Rd) (w:World) (h:RdAt w r R) :
  Calls Tryz.prog 100 #[.pointer (some ⟨r,0,none⟩)] w λ e w'=>e=.returned (.int .i64 R.end)/\w'=w:=by
 have c0:=h.c0
 by_cases he:R.e=0
 ·have hb:(R.e != 0)=false:=by simp [he]
  by_cases hn:R.b=[]
  ·have hE:=hid (show R.end=0 by simp [Rd.end,he,hn])
   have hl:R.b.isEmpty=true:=by simp [hn]
   clear he
   go_enter Tryz.func100,Tryz.ntmps100
   go_wp2_with (go_at_call 98;refine (err_any _ _ _ h).mono ?_;rintro e w1 ⟨rfl,rfl⟩)
   go_ret
   exact ⟨(ret_i hE.out).symm,rfl⟩
  ·have hE:=hid (show R.end=4 by simp [Rd.end,he,hn])
   have hl:=isE hn
   clear he
   go_enter Tryz.func100,Tryz.ntmps100
   go_wp2_with (go_at_call 98;refine (err_any _ _ _ h).mono ?_;rintro e w1 ⟨rfl,rfl⟩)
   go_ret
   exact ⟨(ret_i hE.out).symm,rfl⟩
 ·have hE:=hid (show R.end=R.e by simp [Rd.end,he])
  have hb:(R.e != 0)=true:=by simp [he]
  clear he
  go_enter Tryz.func100,Tryz.ntmps100
  go_wp2_with (go_at_call 98;refine (err_any _ _ _ h).mono ?_;rintro e w1 ⟨rfl,rfl⟩)
  go_ret
  exact ⟨(ret_i hE.out).symm,rfl⟩
theorem var_any (r:Nat) (R:Rd) (w:World) (h:RdAt w r R) :
  Calls Tryz.prog 97 #[.pointer (some ⟨r,0,none⟩)] w (RdTo r w (.int .i64 R.var.1) R.var.2):=by
 have c0:=h.c0
 have c1:=h.c1
 have f0:=h.f0
 have f1:=h.f1
 have K0:=Keeps.refl (· = r) w
 by_cases he:R.e=0
 ·have hoff:R.off=false:=by simp [Rd.off,he]
  have hR:Hid (R.e=0):=he
  clear he
  by_cases hp:(numP 0 0 R.b).2.2=0
  ·have hv:=hid (show R.var=((numP 0 0 R.b).1,⟨(numP 0 0 R.b).2.1,0⟩) by unfold Rd.var;rw [if_neg (by simp [hR.out]),if_neg (by simp [hp])])
   have hl:(numP 0 0 R.b).2.1.length<=9223372036854775807:=by have:=numP_short _ _ _ hp;have:=h.2;omega
   have hz:=hid hp
   have hq:((numP 0 0 R.b).2.2 != 0)=false:=by simp [hp]
   clear hp
   generalize hg:numP 0 0 R.b=q at *
   have Hg:=hid hg
   clear hg
   go_enter Tryz.func97,Tryz.ntmps97
   go_wp2_with (first
    | (go_at_call 152;refine (off_any _ _ _ h).mono ?_;rintro e w1 ⟨rfl,rfl⟩)
    | (go_at_call 153;refine (number_any _ _ h.2).mono ?_;rw [Hg.out];rintro e w1 ⟨rfl,n1,rfl⟩))
   go_ret
   refine ⟨(ret_i (congrArg Prod.fst hv.out)).symm,?_,?_⟩
   ·rw [hv.out]
    have:=(h.drewN n1).setB hl
    rw [hR.out] at this
    exact this
   ·exact (K0.drewN n1).setCell (λ _=>rfl) _
  ·have hv:=hid (show R.var=(0,⟨R.b,(numP 0 0 R.b).2.2⟩) by unfold Rd.var;rw [if_neg (by simp [hR.out]),if_pos hp])
   have hq:((numP 0 0 R.b).2.2 != 0)=true:=by simp [hp]
   clear hp
   generalize hg:numP 0 0 R.b=q at *
   have Hg:=hid hg
   clear hg
   go_enter Tryz.func97,Tryz.ntmps97
   go_wp2_with (first
    | (go_at_call 152;refine (off_any _ _ _ h).mono ?_;rintro e w1 ⟨rfl,rfl⟩)
    | (go_at_call 153;refine (number_any _ _ h.2).mono ?_;rw [Hg.out];rintro e w1 ⟨rfl,n1,rfl⟩))
   go_ret
   refine ⟨(ret_i (congrArg Prod.fst hv.out)).symm,?_,?_⟩
   ·rw [hv.out]
    exact (h.drewN n1).setE _
   ·exact (K0.drewN n1).setCell (λ _=>rfl) _
 ·have hoff:R.off=true:=by simp [Rd.off,he]
  have hv:=hid (Rd.var_off he)
  clear he
  go_enter Tryz.func97,Tryz.ntmps97
  go_wp2_with (first
   | (go_at_call 152;refine (off_any _ _ _ h).mono ?_;rintro e w1 ⟨rfl,rfl⟩))
  go_ret
  exact ⟨(ret_i (congrArg Prod.fst hv.out)).symm,by rw [hv.out];exact h,K0⟩
end Go.Ev
