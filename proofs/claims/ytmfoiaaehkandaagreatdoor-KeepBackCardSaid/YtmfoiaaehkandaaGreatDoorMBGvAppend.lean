/-
  Texts of this claim.
-/
import Derived.Test.YtmfoiaaehkandaaGreatDoorMBEvInsert
import Derived.Test.YtmfoiaaehkandaaGreatDoorMBGvFind
import Derived.Laws.AppendOwnNone
import Derived.Laws.BitsAllLaws
import Derived.Shelf.Strings.Builder1
import Derived.Shelf.Strings.Repeat
set_option linter.unusedVariables false
set_option linter.unusedSimpArgs false
set_option maxHeartbeats 1000000
set_option maxRecDepth 100000
namespace Go.Proofs
open Go.Shelf
def Tryz.repeatL_ren:Go.Shelf.Ren:=⟨fun | 105=>88 | 212=>140 | 99=>141 | 165=>142 | 166=>92 | 170=>143 | 169=>94 | 263=>192 | 264=>193 | 206=>194 | 240=>150 | 241=>195 | 276=>207 | 277=>231 | n=>n,fun | 9=>9 | 3=>3 | 4=>4 | 20=>20 | 0=>0 | 46=>226 | 109=>229 | 5=>5 | 72=>161 | 76=>164 | 51=>301 | 146=>302 | 53=>225 | 148=>304 | 70=>158 | 37=>159 | 75=>163 | 127=>245 | 164=>319 | 80=>167 | n=>n,fun | n=>n⟩
theorem Tryz.repeatL:Go.Proofs.Lays.n105 Tryz.prog Tryz.repeatL_ren:={
 mixed:=by kernel_rfl
 f99:=Tryz.func141.trans (congrArg some (by kernel_rfl))
 f105:=Tryz.func88.trans (congrArg some (by kernel_rfl))
 f165:=Tryz.func142.trans (congrArg some (by kernel_rfl))
 f166:=Tryz.func92.trans (congrArg some (by kernel_rfl))
 f169:=Tryz.func94.trans (congrArg some (by kernel_rfl))
 f170:=Tryz.func143.trans (congrArg some (by kernel_rfl))
 f206:=Tryz.func194.trans (congrArg some (by kernel_rfl))
 f212:=Tryz.func140.trans (congrArg some (by kernel_rfl))
 f240:=Tryz.func150.trans (congrArg some (by kernel_rfl))
 f241:=Tryz.func195.trans (congrArg some (by kernel_rfl))
 f263:=Tryz.func192.trans (congrArg some (by kernel_rfl))
 f264:=Tryz.func193.trans (congrArg some (by kernel_rfl))
 f276:=Tryz.func207.trans (congrArg some (by kernel_rfl))
 f277:=Tryz.func231.trans (congrArg some (by kernel_rfl))
 t0:=Tryz.underlying0
 a0:=Tryz.isAgg0
 z0:=Tryz.sizeOf0
 v0:=Tryz.zeroValue0
 t3:=Tryz.underlying3
 a3:=Tryz.isAgg3
 z3:=Tryz.sizeOf3
 v3:=Tryz.zeroValue3
 t4:=Tryz.underlying4
 a4:=Tryz.isAgg4
 z4:=Tryz.sizeOf4
 v4:=Tryz.zeroValue4
 t5:=Tryz.underlying5
 a5:=Tryz.isAgg5
 z5:=Tryz.sizeOf5
 v5:=Tryz.zeroValue5
 t9:=Tryz.underlying9
 a9:=Tryz.isAgg9
 z9:=Tryz.sizeOf9
 v9:=Tryz.zeroValue9
 t20:=Tryz.underlying20
 a20:=Tryz.isAgg20
 z20:=Tryz.sizeOf20
 v20:=Tryz.zeroValue20
 t37:=Tryz.underlying159
 a37:=Tryz.isAgg159
 z37:=Tryz.sizeOf159
 v37:=Tryz.zeroValue159
 t46:=Tryz.underlying226
 a46:=Tryz.isAgg226
 z46:=Tryz.sizeOf226
 v46:=Tryz.zeroValue226
 t51:=Tryz.underlying301
 a51:=Tryz.isAgg301
 z51:=Tryz.sizeOf301
 v51:=Tryz.zeroValue301
 t53:=Tryz.underlying225
 a53:=Tryz.isAgg225
 z53:=Tryz.sizeOf225
 v53:=Tryz.zeroValue225
 t70:=Tryz.underlying158
 a70:=Tryz.isAgg158
 z70:=Tryz.sizeOf158
 v70:=Tryz.zeroValue158
 t72:=Tryz.underlying161
 a72:=Tryz.isAgg161
 z72:=Tryz.sizeOf161
 v72:=Tryz.zeroValue161
 t75:=Tryz.underlying163
 a75:=Tryz.isAgg163
 z75:=Tryz.sizeOf163
 v75:=Tryz.zeroValue163
 t76:=Tryz.underlying164
 a76:=Tryz.isAgg164
 z76:=Tryz.sizeOf164
 v76:=Tryz.zeroValue164
 t109:=Tryz.underlying229
 a109:=Tryz.isAgg229
 z109:=Tryz.sizeOf229
 v109:=Tryz.zeroValue229
 t127:=Tryz.underlying245
 a127:=Tryz.isAgg245
 z127:=Tryz.sizeOf245
 v127:=Tryz.zeroValue245
 t146:=Tryz.underlying302
 a146:=Tryz.isAgg302
 z146:=Tryz.sizeOf302
 v146:=Tryz.zeroValue302
 t148:=Tryz.underlying304
 a148:=Tryz.isAgg304
 z148:=Tryz.sizeOf304
 v148:=Tryz.zeroValue304
 t164:=Tryz.underlying319
 a164:=Tryz.isAgg319
 z164:=Tryz.sizeOf319
 v164:=Tryz.zeroValue319 }
end Go.Proofs
namespace Go.Ev
open Go.Proofs Go.RowKit
def stepBit (x:Nat):Nat:=if x % 2=1 then (x / 2) ^^^ 0xedb88320 else x / 2
def stepN:Nat->Nat->Nat
 | 0,x=>x
 | k+1,x=>stepBit (stepN k x)
def bytesN:List UInt8->Nat->Nat
 | [],x=>x
 | b :: l,x=>bytesN l (stepN 8 (x ^^^ b.toNat))
def allN:List (List UInt8)->Nat->Nat
 | [],x=>x
 | s :: l,x=>allN l (bytesN s x)
def bytesT (s:ByteArray) (m x:Nat):Nat:=bytesN (s.data.toList.take m) x
def crcT (ss:List ByteArray) (k:Nat):Nat:=allN ((ss.take k).map (·.data.toList)) 0xffffffff
def byteT (s:ByteArray) (m x:Nat):Nat:=bytesT s m x ^^^ (s.data.toList[m]?.getD 0).toNat
theorem stepBit_lt (x:Nat) (hx:x<4294967296):stepBit x<4294967296:=by
 unfold stepBit
 split
 ·exact Nat.xor_lt_two_pow (n:=32) (by omega) (by omega)
 ·omega
theorem stepN_lt (j x:Nat) (hx:x<4294967296):stepN j x<4294967296:=by
 induction j with
 | zero=>exact hx
 | succ j ih=>exact stepBit_lt _ ih
theorem xorByte_lt (x:Nat) (b:UInt8) (hx:x<4294967296):x ^^^ b.toNat<4294967296:=
 Nat.xor_lt_two_pow (n:=32) (by omega) (by have:=b.toNat_lt;omega)
theorem bytesN_lt:∀ (l:List UInt8) (x:Nat),x<4294967296->bytesN l x<4294967296
 | [],_,h=>h
 | b :: l,x,h=>bytesN_lt l _ (stepN_lt 8 _ (xorByte_lt x b h))
theorem allN_lt:∀ (l:List (List UInt8)) (x:Nat),x<4294967296->allN l x<4294967296
 | [],_,h=>h
 | s :: l,x,h=>allN_lt l _ (bytesN_lt s x h)
theorem bytesN_snoc:∀ (l:List UInt8) (b:UInt8) (x:Nat),bytesN (l++[b]) x=stepN 8 (bytesN l x ^^^ b.toNat)
 | [],_,_=>rfl
 | _ :: l,b,_=>bytesN_snoc l b _
theorem allN_snoc:∀ (l:List (List UInt8)) (s:List UInt8) (x:Nat),allN (l++[s]) x=bytesN s (allN l x)
 | [],_,_=>rfl
 | _ :: l,s,_=>allN_snoc l s _
theorem crcT_lt (ss:List ByteArray) (k:Nat):crcT ss k<4294967296:=allN_lt _ _ (by omega)
theorem bytesT_lt (s:ByteArray) (m x:Nat) (hx:x<4294967296):bytesT s m x<4294967296:=bytesN_lt _ _ hx
theorem byte_at (s:ByteArray) (m:Nat) (h:m<s.size):s.data.toList[m]? = some s[m]:=by
 have:m<s.data.size:=h
 rw [Array.getElem?_toList,Array.getElem?_eq_getElem this]
 rfl
theorem bytesT_succ (s:ByteArray) (m x:Nat) (h:m<s.size):bytesT s (m+1) x=stepN 8 (byteT s m x):=by
 have e:=byte_at s m h
 unfold bytesT byteT
 rw [List.take_add_one,e,Option.toList_some,bytesN_snoc]
 rfl
theorem byteT_lt (s:ByteArray) (m x:Nat) (hx:x<4294967296):byteT s m x<4294967296:=xorByte_lt _ _ (bytesT_lt s m x hx)
theorem byte_eq (s:ByteArray) (m x:Nat) (h:m<s.size) (hx:x<4294967296):bits BinOp.xor IntKind.u32 (↑(bytesT s m x)) (↑s[m].toNat % 4294967296) = ↑(byteT s m x):=by
 have e:=byte_at s m h
 have hb:s[m].toNat<256:=s[m].toNat_lt
 have e2:((s[m].toNat:Int) % 4294967296)=(s[m].toNat:Int):=by omega
 rw [e2,u32_xor_nat _ _ (bytesT_lt s m x hx) (by omega)]
 unfold byteT
 rw [e]
 rfl
theorem int_eq {k:IntKind} {a b:Int} (h:a=b):Value.int k a=.int k b:=by rw [h]
theorem ret_int {k:IntKind} {a b:Int} (h:a=b):Ending.returned (.int k a)=.returned (.int k b):=by rw [h]
theorem odd_eq {x:Nat} (hb:x<4294967296):(bits BinOp.and IntKind.u32 (↑x) 1==1)=decide (x % 2=1):=by
 have:=u32_and_nat x 1 hb (by omega)
 rw [show ((1:Nat):Int)=1 from rfl] at this
 rw [this,Nat.and_one_is_mod]
 by_cases h:x % 2=1
 ·simp [h]
 ·have:x % 2=0:=by omega
  simp [this]
theorem step_odd {j x:Nat} (hb:stepN j x<4294967296) (h:(bits BinOp.and IntKind.u32 (↑(stepN j x)) 1==1)=true):bits BinOp.xor IntKind.u32 (↑(stepN j x) / 2) 3988292384 = ↑(stepN (j+1) x):=by
 rw [odd_eq hb,decide_eq_true_eq] at h
 have:=u32_xor_nat (stepN j x / 2) 3988292384 (by omega) (by omega)
 rw [show ((3988292384:Nat):Int)=3988292384 from rfl,Int.natCast_ediv] at this
 rw [show (2:Int)=((2:Nat):Int) from rfl,this]
 show _=((stepBit (stepN j x):Nat):Int)
 unfold stepBit
 rw [if_pos h]
theorem step_even {j x:Nat} (hb:stepN j x<4294967296) (h:(bits BinOp.and IntKind.u32 (↑(stepN j x)) 1==1)=false):(↑(stepN j x) / 2:Int) = ↑(stepN (j+1) x):=by
 rw [odd_eq hb,decide_eq_false_iff_not] at h
 show _=((stepBit (stepN j x):Nat):Int)
 unfold stepBit
 rw [if_neg h]
 omega
theorem crcT_succ (ss:List ByteArray) (k:Nat) (h:k<ss.length):crcT ss (k+1)=bytesT ss[k] ss[k].size (crcT ss k):=by
 unfold crcT bytesT
 rw [List.take_add_one,List.getElem?_eq_getElem h,Option.toList_some,List.map_append,List.map_cons,List.map_nil,allN_snoc]
 congr 1
 rw [List.take_of_length_le]
 exact Nat.le_of_eq (by rw [Array.length_toList];rfl)
theorem not_eq (x:Nat) (hx:x<4294967296):wrap64 (bits BinOp.xor IntKind.u32 IntKind.u32.max ↑x)=((x ^^^ 4294967295:Nat):Int):=by
 have h1:=u32_xor_nat 4294967295 x (by omega) hx
 rw [show IntKind.u32.max=((4294967295:Nat):Int) from rfl,h1,Nat.xor_comm 4294967295 x]
 have h2:x ^^^ 4294967295<2 ^ 32:=Nat.xor_lt_two_pow (by omega) (by omega)
 generalize x ^^^ 4294967295=y at h2 ⊢
 unfold wrap64
 omega
theorem crc_any (g off cap:Nat) (ss:List ByteArray) (w:World) (hl:ss.length<=4294967296) (hs:∀ s∈ss,s.size<=4294967296)
  (hc:∀ (j:Nat) (s:ByteArray),ss[j]? = some s->w.cell? ⟨g,off+j,none⟩=some (.string s)) :
  Calls Tryz.prog 220 #[.slice (some ⟨g,off,none⟩) ss.length cap] w λ e w'=>e=.returned (.int .i64 (crcT ss ss.length ^^^ 0xffffffff:Nat))/\w'=w:=by
 go_enter Tryz.func220,Tryz.ntmps220
 go_wp2
 go_loop [3,10] (λ x i=>∃ k:Nat,k<=ss.length/\i=.int .i64 k/\x=.int .u32 (crcT ss k:Nat)) (λ _ i=>ss.length-(intOf i).toNat)
 case atStart=>exact ⟨0,Nat.zero_le _,rfl,rfl⟩
 case round =>
  obtain ⟨k,hk,rfl,rfl⟩:=hrel
  by_cases hlt:k<ss.length
  ·have hck:=hc k ss[k] (by simp)
   have hsk:=hs ss[k] (by simp)
   go_wp2
   go_loop [3,16] (λ x i=>∃ m:Nat,m<=ss[k].size/\i=.int .i64 m/\x=.int .u32 (bytesT ss[k] m (crcT ss k):Nat)) (λ _ i=>ss[k].size-(intOf i).toNat)
   case atStart=>exact ⟨0,Nat.zero_le _,rfl,rfl⟩
   case round =>
    obtain ⟨m,hm,rfl,rfl⟩:=hrel
    by_cases hmt:m<ss[k].size
    ·have hx0:=bytesT_lt ss[k] m (crcT ss k) (crcT_lt ss k)
     have hH:=byte_eq ss[k] m (crcT ss k) hmt (crcT_lt ss k)
     have HS:=Hdz (bytesT_succ ss[k] m (crcT ss k) hmt)
     have HH:=Hdz hH
     clear hH
     go_wp2
     go_loop [3,25] (λ x i=>∃ j:Nat,j<=8/\i=.int .i64 j/\x=.int .u32 (stepN j (byteT ss[k] m (crcT ss k)):Nat)) (λ _ i=>8-(intOf i).toNat)
     case atStart=>exact ⟨0,Nat.zero_le _,rfl,by rw [HH.out];rfl⟩
     case round =>
      obtain ⟨j,hj,rfl,rfl⟩:=hrel
      by_cases hjt:j<8
      ·have hb:=stepN_lt j _ (byteT_lt ss[k] m (crcT ss k) (crcT_lt ss k))
       go_wp2
       ·rename_i hodd
        go_round
        case rel=>exact ⟨j+1,by omega,by go_num,int_eq (step_odd hb hodd)⟩
        case measure=>simp [intOf];omega
       ·rename_i hodd
        go_round
        case rel=>exact ⟨j+1,by omega,by go_num,int_eq (step_even hb hodd)⟩
        case measure=>simp [intOf];omega
      ·have hj8:j=8:=by omega
       have HJ:=Hdz hj8
       clear hj8
       go_wp2
       go_round
       case rel=>exact ⟨m+1,by omega,by go_num,int_eq (by rw [HS.out,HJ.out])⟩
       case measure=>simp [intOf];omega
    ·have hm8:m=ss[k].size:=by omega
     have HM:=Hdz hm8
     clear hm8
     go_wp2
     go_round
     case rel=>exact ⟨k+1,by omega,by go_num,int_eq (by rw [HM.out,crcT_succ ss k hlt])⟩
     case measure=>simp [intOf];omega
  ·have hk8:k=ss.length:=by omega
   have HK:=Hdz hk8
   clear hk8
   have hx:=crcT_lt ss k
   go_wp2
   go_ret
   refine ⟨ret_int ?_,rfl⟩
   rw [not_eq _ hx,HK.out]
def Bld (B b L:Nat) (w:World):Prop:=∃ l:List UInt8,l.length=L/\Lib.IsBuilderF 161 5 B b (Lib.byteCells l) w
theorem at_below {T e:TypeId} {B b:Nat} {p:Value} {bs:List Value} {w w':World} (h:Lib.BuilderAtF T e B b p bs w) (hb:Below w.heap.size w w'):Lib.BuilderAtF T e B b p bs w':=by
 have hlt:=h.lt
 obtain ⟨hB,v,hbk,hown,hne⟩:=h
 exact ⟨hB,v,(hb.block b hlt).trans hbk,hown.kept (row:=none) ⟨hb.os,hb.tape,hb.output,hb.size,λ k hk _=>hb.block k hk⟩ (by cases v.ownBlock<;>simp),hne⟩
theorem Bld.below {B b L:Nat} {w w':World} (h:Bld B b L w) (hb:Below w.heap.size w w'):Bld B b L w':=by
 obtain ⟨l,hl,h | h⟩:=h
 ·exact ⟨l,hl,.inl (at_below h hb)⟩
 ·exact ⟨l,hl,.inr (at_below h hb)⟩
theorem write_string {B b L:Nat} {w:World} (h:Bld B b L w) (s:ByteArray) (hL:L+s.size<=1000000) (hBw:B<=w.heap.size) :
  Calls Tryz.prog 92 #[.pointer (some ⟨b,0,none⟩),.string s] w λ e w'=>e=.returned (.tuple #[.int .i64 s.size,.nilIface])/\Bld B b (L+s.size) w'/\Below B w w':=by
 obtain ⟨l,rfl,h⟩:=h
 refine (Any.Builder_WriteString_f Tryz.bString Tryz.bX B b (Lib.byteCells l) s w h (by rw [Lib.byteCells_length];omega) hBw).mono ?_
 rintro e w' ⟨rfl,h1,h2⟩
 refine ⟨rfl,⟨l++s.data.toList,by rw [List.length_append,Lib.size_eq],.inr ?_⟩,h2⟩
 rw [Lib.byteCells_append,<- Lib.strCells_eq]
 exact h1
theorem write_first {B b:Nat} {w:World} (h:Lib.IsBuilder 161 5 B b [] w) (c:Int) (hc0:0<=c) (hc:c<256) (hBw:B<=w.heap.size) :
  Calls Tryz.prog 218 #[.pointer (some ⟨b,0,none⟩),.int .u8 c] w λ e w'=>e=.returned .nilIface/\Bld B b 1 w'/\Below B w w':=by
 refine (Any.Builder_WriteByte Tryz.bByte Tryz.bX B b [] c w h (by simp) hBw).mono ?_
 rintro e w' ⟨rfl,h1,h2⟩
 refine ⟨rfl,⟨[UInt8.ofNat c.toNat],rfl,.of (.inr ?_)⟩,h2⟩
 have:((UInt8.ofNat c.toNat).toNat:Int)=c:=by
  rw [UInt8.toNat_ofNat_of_lt' (by show c.toNat<256;omega)];omega
 have e:Lib.byteCells [UInt8.ofNat c.toNat]=[]++[Value.int .u8 c]:=by
  show [Value.int .u8 ((UInt8.ofNat c.toNat).toNat:Int)]=[Value.int .u8 c]
  rw [this]
 rw [e]
 exact h1
theorem build_len {B b L:Nat} {w:World} (h:Bld B b L w) :
  Calls Tryz.prog 143 #[.pointer (some ⟨b,0,none⟩)] w λ e w'=>e=.returned (.int .i64 L)/\w'=w:=by
 obtain ⟨l,rfl,h⟩:=h
 refine (Any.Builder_Len_f Tryz.bLen B b (Lib.byteCells l) w h).mono ?_
 rintro e w' ⟨rfl,rfl⟩
 exact ⟨by rw [Lib.byteCells_length],rfl⟩
theorem build_text {B b L:Nat} {w:World} (h:Bld B b L w) (hBw:B<=w.heap.size) :
  Calls Tryz.prog 94 #[.pointer (some ⟨b,0,none⟩)] w λ e w'=>(∃ t:ByteArray,e=.returned (.string t)/\t.size=L)/\Bld B b L w'/\Below B w w':=by
 obtain ⟨l,rfl,h⟩:=h
 refine (Any.Builder_String_any_f Tryz.bText Tryz.bX B b l w h hBw).mono ?_
 rintro e w' ⟨rfl,h1,h2⟩
 exact ⟨⟨_,rfl,by simp [ByteArray.size]⟩,⟨l,rfl,h1⟩,h2⟩
theorem rX:Builder.Extra Tryz.prog Tryz.repeatL_ren:={
 sizeBuilder:=by kernel_rfl
 liesBuilder:=by kernel_rfl
 t5:=Tryz.underlying5
 a5:=Tryz.isAgg5
 z5:=Tryz.sizeOf5
 v5:=Tryz.zeroValue5
 infoByte:=by kernel_rfl
 cellsByte:=by kernel_rfl
 sizeByte:=by kernel_rfl
 neB5:=by decide
}
theorem repeat_zero (m:Int) (w:World) (hm:0<=m) (hn:m<=1000000) :
  Calls Tryz.prog 88 #[.string ⟨#[0]⟩,.int .i64 m] w λ e w'=>(∃ t:ByteArray,e=.returned (.string t)/\t.size=m.toNat)/\Below w.heap.size w w':=by
 obtain ⟨n,rfl⟩:∃ k:Nat,m=k:=⟨m.toNat,by omega⟩
 refine (Any.strings_Repeat Tryz.repeatL rX ⟨#[0]⟩ n w (by omega) (by show 1*n<=_;omega)).mono ?_
 rintro e w' ⟨rfl,h2⟩
 exact ⟨⟨_,rfl,by simp [ByteArray.size,Lib.repeatL_length]⟩,h2⟩
theorem in_any (n a b:Int) (w:World):Calls Tryz.prog 217 #[.int .i64 n,.int .i64 a,.int .i64 b] w λ e w'=>e=.returned (.bool (decide (a<=n) && decide (n<=b)))/\w'=w:=by
 go_enter Tryz.func217,Tryz.ntmps217
 go_wp2
 ·rename_i h
  go_ret
  exact ⟨by simp [h],rfl⟩
 ·rename_i h
  go_ret
  exact ⟨by simp [show ¬ a<=n by omega],rfl⟩
theorem put_any {B b L:Nat} {w:World} (h:Bld B b L w) (v m:Int) (n:Nat) (hm:m=n) (hn1:1<=n) (hn7:n<=7) (hv0:0<=v) (hv:v.toNat<2 ^ (8*n)) (hL:L+n<=1000000) (hBw:B<=w.heap.size) :
  Calls Tryz.prog 219 #[.pointer (some ⟨b,0,none⟩),.int .i64 v,.int .i64 m] w λ e w'=>e=.returned (.tuple #[])/\Bld B b (L+n) w'/\Below B w w':=by
 subst hm
 obtain ⟨v,rfl⟩:∃ k:Nat,v=k:=⟨v.toNat,by omega⟩
 simp only [Int.toNat_natCast] at hv
 go_enter Tryz.func219,Tryz.ntmps219
 go_wp2_with (first
  | (go_at_call 187;refine (fix_any v n _ hn1 hn7 hv).mono ?_;rintro e w1 ⟨⟨t,rfl,ht⟩,hb1⟩;have h1:=h.below hb1;have hz1:=hb1.size)
  | (go_at_call 92;refine (write_string h1 t (by omega) (by omega)).mono ?_;rintro e w2 ⟨rfl,h2,hb2⟩))
 refine bodyPost_end (results_none rfl _ _ _) rfl ?_
 exact ⟨rfl,ht ▸ h2,(hb1.mono hBw).trans hb2⟩
theorem Bld.alloc {B b L:Nat} {w:World} (h:Bld B b L w) (o:Obj):Bld B b L (w.alloc o):=h.below ((Below.refl _ _).alloc (Nat.le_refl _) o)
theorem fresh_at (w:World) (o:Obj):Lib.IsBuilder 161 5 (w.heap.size+1) (w.heap.size+1) [] ((w.alloc o).alloc (.cells #[.pointer none,.slice none 0 0] 161)):=by
 have:=Lib.fresh_isBuilder 161 5 (w.alloc o)
 rwa [show (w.alloc o).heap.size=w.heap.size+1 by simp] at this
theorem crc_lt (t:ByteArray):(((crcT [t] [t].length ^^^ 0xffffffff:Nat):Int)).toNat<2 ^ (8*4):=by
 rw [Int.toNat_natCast]
 exact Nat.xor_lt_two_pow (n:=32) (allN_lt _ _ (by decide)) (by decide)
theorem crc_one (g:Nat) (t:ByteArray) (w:World) (ht:t.size<=4294967296) (hc:w.cell? ⟨g,0,none⟩=some (.string t)) :
  Calls Tryz.prog 220 #[.slice (some ⟨g,0,none⟩) 1 1] w λ e w'=>e=.returned (.int .i64 (crcT [t] [t].length ^^^ 0xffffffff:Nat))/\w'=w:=by
 refine crc_any g 0 1 [t] w (by simp) (by simpa using ht) (λ j s hj=>?_)
 match j,hj with
 | 0,hj=>cases hj;exact hc
 | j+1,hj=>simp at hj
end Go.Ev
namespace Go.Ev
open Go.RowKit
theorem Sl.take {w:World} {z n c:Nat} {A:Option Addr} {xs:List Value} (h:Sl w z (.slice A n c) n xs) {i:Nat} (hi:i<=n):Sl w z (.slice A i c) i (xs.take (i*z)):=by
 obtain ⟨A',c',e,h0,h1,h2⟩:=h
 cases e
 have hm:i*z<=n*z:=Nat.mul_le_mul_right _ hi
 refine ⟨A,c,rfl,by omega,by rw [List.length_take];omega,λ hp=>?_⟩
 obtain ⟨b,o,h3,h4,h5⟩:=h2 (by omega)
 refine ⟨b,o,h3,h4,λ j u hu=>h5 j u ?_⟩
 rw [List.getElem?_take] at hu
 split at hu
 ·exact hu
 ·cases hu
theorem Sl.drop {w:World} {z n c b o:Nat} {xs:List Value} (h:Sl w z (.slice (some ⟨b,o,none⟩) n c) n xs) {i:Nat} (hi:i<=n):Sl w z (.slice (some ⟨b,o+i*z,none⟩) (n-i) (c-i)) (n-i) (xs.drop (i*z)):=by
 obtain ⟨A',c',e,h0,h1,h2⟩:=h
 cases e
 have hm:i*z<=n*z:=Nat.mul_le_mul_right _ hi
 refine ⟨_,_,rfl,by omega,by rw [List.length_drop,h1,Nat.sub_mul],λ hp=>?_⟩
 obtain ⟨b',o',h3,h4,h5⟩:=h2 (by omega)
 cases h3
 refine ⟨_,_,rfl,h4,λ j u hu=>?_⟩
 rw [List.getElem?_drop] at hu
 have:=h5 _ u hu
 rwa [<- Nat.add_assoc] at this
theorem bestFrom_step (cost:Nat->Nat) {n k best:Nat} (h:k<n):bestFrom cost (n-k) k best=bestFrom cost (n-(k+1)) (k+1) (if best=0\/cost k<cost best then k else best):=by
 obtain ⟨m,hm⟩:∃ m,n-k=m+1:=⟨n-k-1,by omega⟩
 rw [hm,show n-(k+1)=m by omega,bestFrom]
theorem bestFrom_end (cost:Nat->Nat) (n best:Nat):bestFrom cost (n-n) n best=best:=by
 rw [Nat.sub_self,bestFrom]
end Go.Ev
namespace Go.Ev
def prevK (k:Bytes) (l:List Child):Nat->Bytes
 | 0=>k
 | j+1=>(l.getD j default).key
theorem prevK_cons (k:Bytes) (x:Child) (l:List Child) (i:Nat):prevK k (x :: l) (i+1)=prevK x.key l i:=by
 cases i<;>simp [prevK]
theorem riseC_iff:∀ {k:Bytes} {l:List Child},riseC k l=true↔∀ i (h:i<l.length),l[i].fit=true/\lessB (prevK k l i) l[i].key=true
 | k,[]=>by simp [riseC]
 | k,x :: l=>by
  simp only [riseC,Bool.and_eq_true,@riseC_iff x.key l]
  constructor
  ·rintro ⟨⟨h1,h2⟩,h3⟩ i hi
   cases i with
   | zero=>exact ⟨h1,h2⟩
   | succ i=>rw [prevK_cons];exact h3 i (Nat.lt_of_succ_lt_succ hi)
  ·intro h
   refine ⟨h 0 (Nat.succ_pos _),λ i hi=>?_⟩
   have:=h (i+1) (Nat.succ_lt_succ hi)
   rw [prevK_cons] at this
   exact this
def stepC (l:List Child) (k:Nat) (h:k<l.length):Bool:=l[k].fit && if k=0 then l[k].key.isEmpty else lessB (l.getD (k-1) default).key l[k].key
theorem rightC_iff {l:List Child}:rightC l=true↔l≠[]/\∀ i (h:i<l.length),stepC l i h=true:=by
 cases l with
 | nil=>simp [rightC]
 | cons x l =>
  simp only [rightC,Bool.and_eq_true,riseC_iff,stepC]
  constructor
  ·rintro ⟨⟨h1,h2⟩,h3⟩
   refine ⟨by simp,λ i hi=>?_⟩
   cases i with
   | zero=>exact ⟨h1,by simpa using h2⟩
   | succ i =>
    have:=h3 i (Nat.lt_of_succ_lt_succ hi)
    refine ⟨this.1,?_⟩
    rw [if_neg (by omega)]
    have e:=prevK_cons [] x l i
    have:=this.2
    rw [<- e] at this
    exact this
  ·rintro ⟨_,h⟩
   have h0:=h 0 (Nat.succ_pos _)
   refine ⟨⟨h0.1,by simpa using h0.2⟩,λ i hi=>?_⟩
   have:=h (i+1) (Nat.succ_lt_succ hi)
   refine ⟨this.1,?_⟩
   have h2:=this.2
   rw [if_neg (by omega)] at h2
   rw [<- prevK_cons [] x l i]
   exact h2
theorem rightC_not {l:List Child} {k:Nat} (h:k<l.length) (hs:stepC l k h=false):rightC l=false:=by
 cases hr:rightC l
 ·rfl
 ·rw [(rightC_iff.1 hr).2 k h] at hs;cases hs
theorem layC_take {l:List Child} {k:Nat} (h:k<l.length):layC (l.take (k+1))=layC (l.take k)++l[k].lay:=by
 rw [List.take_succ_eq_append_getElem h,layC_append]
 simp [layC]
theorem layC_le (l:List Child) (k:Nat):(layC (l.take k)).length<=(layC l).length:=by
 have:layC l=layC (l.take k)++layC (l.drop k):=by rw [<- layC_append,List.take_append_drop]
 rw [this,List.length_append]
 omega
open Go.RowKit
theorem addr_add (b o j:Nat):(⟨b,o,none⟩:Addr).add j=⟨b,o+j,none⟩:=by cases j<;>simp [Addr.add]
theorem wpList_append_sl {P:Program} {w:World} {ops:Array Oper} {rest:List Oper} {o:Oper} {a:Act} {Q:Exit->Act->World->Prop} (hgd:o.guard=none) (s x:Operand) (t:TypeId)
  (ho:o.op=.call { callee:=.builtin .append,args:=#[s,x],argTypes:=#[t,t] })
  (base:Nat) (e:TypeId) (i:TypeInfo) (z:Value) (size bytes:Nat) (ht:P.underlying t=some (.slice e)) (hi:P.info? e=some i) (hz:i.zero=some z)
  (hsize:i.size=size) (hby:i.bytes=bytes) (hzs:z.cells.size=size) (hsz:0<size)
  (v:Value) (n:Nat) (xs:List Value) (hs:a.eval s=v) (hown:w.ownsRow base e size v n xs)
  (A:Option Addr) (m c:Nat) (news:List Value) (hx:a.eval x=.slice A m c) (hsl:Sl w size (.slice A m c) m news) (hA:A=none->c=0) (h1:∀ u∈news,u.oneCell'=true)
  (h63:n+m<=maxLen) (hbytes:(n+m)*bytes<=140737488355328) (hbase:base<=w.heap.size)
  (h:∀ v' w',w'.ownsRow base e size v' (n+m) (xs++news)->w.grownBy w' v.ownBlock->wpList P ops Q rest (a.put o.dst v') w'):wpList P ops Q (o :: rest) a w:=by
 obtain ⟨A',c',e0,h0,h2,h3⟩:=hsl
 cases e0
 cases A with
 | none =>
  have hm:m=0:=by
   by_cases hp:0<m
   ·obtain ⟨_,_,he,_⟩:=h3 hp;cases he
   ·omega
  subst hm
  have hc:=hA rfl
  subst hc
  have hn:news=[]:=List.eq_nil_of_length_eq_zero (by simpa using h2)
  subst hn
  refine wpList_append_own_none hgd s x t ho base e i size ht hi v n xs hs hown hx (h v w ?_ ⟨rfl,rfl,rfl,Nat.le_refl _,λ _ _ _=>rfl⟩)
  simpa using hown
 | some ad =>
  refine wpList_append_own w hgd s x t ho base e i z size bytes ht hi hz hsize hby hzs hsz v n xs hs hown ad m c news hx h2 (λ j u hu=>?_) h1 h63 hbytes hbase λ v' w' h4 h5 _=>h v' w' h4 h5
  have hj:=(List.getElem?_eq_some_iff.1 hu).1
  have hm:0<m:=by
   cases m with
   | zero=>rw [h2] at hj;simp at hj
   | succ m=>omega
  obtain ⟨b,o',he,_,h6⟩:=h3 hm
  cases he
  rw [addr_add]
  exact h6 j u hu
theorem append_where {P:Program} {w w':World} {base:Nat} {t ty e:TypeId} {i:TypeInfo} {z:Value} {size bytes:Nat} (ht:P.underlying t=some (.slice e)) (hi:P.info? e=some i) (hz:i.zero=some z)
  (hsize:i.size=size) (hby:i.bytes=bytes) (hsz:0<size) {v v':Value} {n:Nat} {xs:List Value} (hown:w.ownsRow base e size v n xs)
  {a:Addr} {m c:Nat} {news:List Value} (hl:news.length=m*size) (hnews:∀ j u,news[j]? = some u->w.cell? (a.add j)=some u) (h1:∀ u∈news,u.oneCell'=true)
  (h63:n+m<=maxLen) (hbytes:(n+m)*bytes<=140737488355328) (hr:(Builtin.append_ #[t,t] ty #[v,.slice (some a) m c]).run P w=.ok v' w') :
  ∀ k,v'.ownBlock=some k->v.ownBlock=some k\/w.heap.size<=k:=by
 subst hsize hby
 unfold maxLen at h63
 rcases hown.2 with ⟨rfl,rfl⟩ | ⟨g,cap,cur,rfl,hbg,hg,hnc,hcm,hcs,htake⟩
 ·by_cases hm:m=0
  ·subst hm
   have:(Builtin.append_ #[t,t] ty #[.slice none 0 0,.slice (some a) 0 c]).run P w=.ok (.slice none 0 0) w:=by
    simp [Builtin.append_,run_underlying ht,sizeOf,typeInfo,hi,Builtin.lenOf,Builtin.firstCells,loadCells,loadCellsFrom]
   rw [this] at hr
   cases hr
   intro k hk
   cases hk
  ·rw [run_append_nil (P:=P) w t ty e i z ht hi hz a m c news hl hnews (by omega) (by omega) (by have hb:=hbytes;simp only [Nat.zero_add] at hb;omega)] at hr
   cases hr
   intro k hk
   simp only [Value.ownBlock,Option.some.injEq] at hk
   omega
 ·by_cases hroom:n+m<=cap
  ·rw [run_append_room (P:=P) w t ty e i ht hi g n cap cur hg a m c news hl hnews h1 hroom (by rw [hl,hcs,<- Nat.add_mul];exact Nat.mul_le_mul_right _ hroom)] at hr
   cases hr
   intro k hk
   exact .inl hk
  ·rw [run_append_grow (P:=P) w t ty e i z ht hi hz ⟨g,0,none⟩ n cap xs hown.1 (hown.cells (g:=g) rfl) a m c news hl hnews (by omega) (by omega) (growslice_fits (by omega) hbytes)] at hr
   cases hr
   intro k hk
   simp only [Value.ownBlock,Option.some.injEq] at hk
   omega
theorem wp_append_at {P:Program} {w:World} {o:Oper} {a:Act} {K:Act->World->Prop} {Q:Exit->Act->World->Prop} (s x:Operand) (t:TypeId)
  (ho:o.op=.call { callee:=.builtin .append,args:=#[s,x],argTypes:=#[t,t] })
  (base:Nat) (e:TypeId) (i:TypeInfo) (z:Value) (size bytes:Nat) (ht:P.underlying t=some (.slice e)) (hi:P.info? e=some i) (hz:i.zero=some z)
  (hsize:i.size=size) (hby:i.bytes=bytes) (hzs:z.cells.size=size) (hsz:0<size)
  (v:Value) (n:Nat) (xs:List Value) (hs:a.eval s=v) (hown:w.ownsRow base e size v n xs)
  (ad:Addr) (m c:Nat) (news:List Value) (hx:a.eval x=.slice (some ad) m c) (hl:news.length=m*size) (hnews:∀ j u,news[j]? = some u->w.cell? (ad.add j)=some u) (h1:∀ u∈news,u.oneCell'=true)
  (h63:n+m<=maxLen) (hbytes:(n+m)*bytes<=140737488355328) (hbase:base<=w.heap.size)
  (h:∀ v' w',w'.ownsRow base e size v' (n+m) (xs++news)->w.grownBy w' v.ownBlock->(∀ k,v'.ownBlock=some k->v.ownBlock=some k\/w.heap.size<=k)->K (a.put o.dst v') w'):o.wp P a w K Q:=by
 obtain ⟨v',w',hr,h2,h3,h4⟩:=run_append_own (P:=P) w base t o.type e i z size bytes ht hi hz hsize hby hzs hsz v n xs hown ad m c news hl hnews h1 h63 hbytes hbase
 have h5:=append_where ht hi hz hsize hby hsz hown hl hnews h1 h63 hbytes hr
 unfold Oper.wp execOp
 simp only [ho,resolve,invoke,builtin,Sem.run_bind,Sem.run_pure,Result.andThen_ok,List.map_toArray,List.map_cons,List.map_nil,hs,hx,hr]
 exact h v' w' h2 h3 h5
theorem wpList_append_at {P:Program} {w:World} {ops:Array Oper} {rest:List Oper} {o:Oper} {a:Act} {Q:Exit->Act->World->Prop} (hgd:o.guard=none) (s x:Operand) (t:TypeId)
  (ho:o.op=.call { callee:=.builtin .append,args:=#[s,x],argTypes:=#[t,t] })
  (base:Nat) (e:TypeId) (i:TypeInfo) (z:Value) (size bytes:Nat) (ht:P.underlying t=some (.slice e)) (hi:P.info? e=some i) (hz:i.zero=some z)
  (hsize:i.size=size) (hby:i.bytes=bytes) (hzs:z.cells.size=size) (hsz:0<size)
  (v:Value) (n:Nat) (xs:List Value) (hs:a.eval s=v) (hown:w.ownsRow base e size v n xs)
  (ad:Addr) (m c:Nat) (news:List Value) (hx:a.eval x=.slice (some ad) m c) (hl:news.length=m*size) (hnews:∀ j u,news[j]? = some u->w.cell? (ad.add j)=some u) (h1:∀ u∈news,u.oneCell'=true)
  (h63:n+m<=maxLen) (hbytes:(n+m)*bytes<=140737488355328) (hbase:base<=w.heap.size)
  (h:∀ v' w',w'.ownsRow base e size v' (n+m) (xs++news)->w.grownBy w' v.ownBlock->(∀ k,v'.ownBlock=some k->v.ownBlock=some k\/w.heap.size<=k)->wpList P ops Q rest (a.put o.dst v') w'):wpList P ops Q (o :: rest) a w:=
 wpList_plain hgd λ _ hK=>wp_append_at s x t ho base e i z size bytes ht hi hz hsize hby hzs hsz v n xs hs hown ad m c news hx hl hnews h1 h63 hbytes hbase λ v' w' h2 h3 h4=>hK _ _ (h v' w' h2 h3 h4)
end Go.Ev
