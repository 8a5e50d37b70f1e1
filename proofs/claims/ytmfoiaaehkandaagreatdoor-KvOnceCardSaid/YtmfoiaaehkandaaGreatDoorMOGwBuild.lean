/-
  Texts of this claim.
-/
import Derived.Test.YtmfoiaaehkandaaGreatDoorMOEvBytes
import Derived.Test.YtmfoiaaehkandaaGreatDoorMOEvLayB
import Derived.Test.YtmfoiaaehkandaaGreatDoorMOGvNum
import Derived.Deep.DeepMust
import Derived.Lib.VarintBits
set_option linter.unusedVariables false
set_option linter.unusedSimpArgs false
set_option maxHeartbeats 2000000
set_option maxRecDepth 100000
namespace Go.Ev
open Go.Proofs Go.RowKit Go.Lib
def byteCs (l:Bytes):List Value:=l.map λ c=>Value.int .u8 c.toNat
theorem own_text {W:World} {base n:Nat} {v:Value} {l:Bytes} (h:W.ownsRow base 5 1 v n (byteCs l)) :
    (convert 159 9 v).run Tryz.prog W=.ok (.string ⟨l.toArray⟩) W:=by
  have hl:l.length=n:=by have:=h.1;simpa [byteCs] using this
  obtain ⟨h1,⟨rfl,rfl⟩ | ⟨g,cap,cur,rfl,hb,hh,hn,hm,hs,hx⟩⟩:=h
  · have:l=[]:=List.eq_nil_of_length_eq_zero hl
    subst this
    exact run_convert_bytes_nil _ _ _ Tryz.underlying159 Tryz.underlying5 _ _ _ Tryz.underlying9
  · have:=bytes_exact W g 0 n cap (λ k=>l.getD k 0) (λ j hj=>by
      rw [Nat.zero_add,cell_of_row W g j cur 5 (0,0) hh]
      have h2:(byteCs l)[j]? = some (.int .u8 (l.getD j 0).toNat):=by
        simp [byteCs,List.getElem?_eq_getElem (show j<l.length by omega)]
      rw [<- hx,List.getElem?_take,if_pos (by omega)] at h2
      simpa using h2)
    have e:(List.range n).map (λ k=>l.getD k 0)=l:=by
      apply List.ext_getElem?
      intro k
      by_cases hk:k<n
      · simp [hk,List.getElem?_eq_getElem (show k<l.length by omega)]
      · simp [hk,List.getElem?_eq_none (show l.length<=k by omega)]
    rw [this,e]
theorem zig_bits (v:Int) (h:I64 v):bits .xor .u64 (IntKind.u64.wrap (IntKind.u64.wrap v*2)) (IntKind.u64.wrap (v / 9223372036854775808))=((zigzag v:Nat):Int):=by
  obtain ⟨h0,h1⟩:=h
  by_cases hn:0<=v
  · have e1:IntKind.u64.wrap (IntKind.u64.wrap v*2)=(((2*v).toNat:Nat):Int):=by
      rw [IntKind.wrap_u64,IntKind.wrap_u64];omega
    have e2:IntKind.u64.wrap (v / 9223372036854775808)=((0:Nat):Int):=by
      rw [IntKind.wrap_u64];omega
    rw [e1,e2,bits_xor_u64_nat _ _ (by omega) (by decide),Nat.xor_zero]
    unfold zigzag
    rw [if_pos hn]
  · have e1:IntKind.u64.wrap (IntKind.u64.wrap v*2)=(((2*v+18446744073709551616).toNat:Nat):Int):=by
      rw [IntKind.wrap_u64,IntKind.wrap_u64];omega
    have e2:IntKind.u64.wrap (v / 9223372036854775808)=((2 ^ 64-1:Nat):Int):=by
      have:v / 9223372036854775808 = -1:=by omega
      rw [this];decide
    rw [e1,e2,bits_xor_u64_nat _ _ (by omega) (by decide),Nat.xor_comm,xor_ones64 _ (by omega)]
    unfold zigzag
    rw [if_neg hn]
    omega
theorem varsB_append:∀ a b:List Int,varsB (a++b)=varsB a++varsB b
  | [],_=>rfl
  | x :: a,b=>by simp [varsB,varsB_append a b]
theorem varsB_len:∀ l:List Int,(∀ x∈l,I64 x)->(varsB l).length<=10*l.length
  | [],_=>by simp [varsB]
  | x :: l,h=>by
    have h1:=varsB_len l λ y hy=>h y (List.mem_cons_of_mem _ hy)
    have h2:=(varB_len x (h x (List.mem_cons_self ..))).2
    simp only [varsB,List.length_append,List.length_cons]
    omega
theorem varsB_take {l:List Int} {k:Nat} (h:k<l.length):varsB (l.take (k+1))=varsB (l.take k)++varB l[k]:=by
  rw [List.take_succ_eq_append_getElem h,varsB_append]
  simp [varsB]
theorem one_new (w:World) (v:Value) (T:TypeId):∀ j u,[v][j]? = some u->(w.alloc (.cells #[v] T)).cell? ((⟨w.heap.size,0,none⟩:Addr).add j)=some u:=by
  intro j u h
  cases j with
  | zero=>cases h;exact World.cell?_alloc_at _ _ _ _ rfl
  | succ j=>simp at h
theorem byteCs_snoc (t:Bytes) (c:UInt8):byteCs t++[.int .u8 c.toNat]=byteCs (t++[c]):=by simp [byteCs]
theorem u8_more (m:Nat):bits .or .u8 ((m:Int) % 256) 128=(((m % 128+128).toUInt8.toNat:Nat):Int):=by
  rw [u8_or128_any _ (by omega) (by omega)]
  have:((m % 128+128).toUInt8).toNat=m % 128+128:=by
    rw [Nat.toUInt8,UInt8.toNat_ofNat_of_lt' (by show m % 128+128<256;omega)]
  rw [this]
  omega
theorem u8_last (m:Nat) (h:m<128):IntKind.u8.wrap (m:Int)=((m.toUInt8.toNat:Nat):Int):=by
  have:(m.toUInt8).toNat=m:=by
    rw [Nat.toUInt8,UInt8.toNat_ofNat_of_lt' (by show m<256;omega)]
  rw [this,IntKind.wrap_u8']
  omega
theorem vars_any (A:Option Addr) (n c:Nat) (l:List Int) (w:World) (hv:Sl w 1 (.slice A n c) n (l.map (Value.int .i64))) (hl:∀ x∈l,I64 x) (hn:n<=1000) :
    Calls Tryz.prog 84 #[.slice A n c] w λ e w'=>e=.returned (.string ⟨(varsB l).toArray⟩)/\Below w.heap.size w w':=by
  obtain ⟨i0,hi,hz0,hz1,hz2⟩:=info_parts (show (Tryz.prog.info? 5).map (λ i=>(i.zero,i.size,i.bytes))=some (some (.int .u8 0),1,1) by kernel_rfl)
  go_enter Tryz.func84,Tryz.ntmps84
  go_wp2
  go_loopw [3,9] (λ b i wr=>∃ (k:Nat),k<=n/\i=.int .i64 (k:Int)/\wr.ownsRow w.heap.size 5 1 b (varsB (l.take k)).length (byteCs (varsB (l.take k)))/\Below w.heap.size w wr) (λ _ i _=>n-(Go.RowKit.intOf i).toNat)
  case atStart=>exact ⟨0,by omega,rfl,World.ownsRow_nil _ _ _ _,Below.refl _ _⟩
  case round =>
    obtain ⟨k,hk,rfl,hown,hb⟩:=hrel
    by_cases hlt:k<n
    · obtain ⟨wo,rfl⟩:∃ wo:World,wo=wr:=⟨_,rfl⟩
      obtain ⟨A',c',e0,h0,h1,h2⟩:=hv
      cases e0
      obtain ⟨blk,off,rfl,hbl,hcell⟩:=h2 (by omega)
      have hk':k<l.length:=by simp at h1;omega
      have hc:wo.cell? ⟨blk,off+k,none⟩=some (.int .i64 l[k]):=(hb.cell (p:=⟨blk,off+k,none⟩) hbl).trans (hcell k _ (by simp [hk']))
      have hx:=hl l[k] (List.getElem_mem hk')
      clear hcell h2
      generalize hX:l[k]=x at *
      have HX:=hid hX
      clear hX
      have hz:=zig_bits x hx
      have hm:=zigzag_lt64 hx
      have hT:Hid (varsB (l.take (k+1))=varsB (l.take k)++uvarint (zigzag x)):=by
        show _=_
        rw [varsB_take hk',HX.out]
        rfl
      have hL:(varsB (l.take (k+1))).length<=10010:=by
        have h5:=varsB_len (l.take (k+1)) λ y hy=>hl y (List.mem_of_mem_take hy)
        have h6:(l.take (k+1)).length<=k+1:=List.length_take_le _ _
        omega
      have hL0:(varsB (l.take k)).length<=10010:=by
        have h5:=varsB_len (l.take k) λ y hy=>hl y (List.mem_of_mem_take hy)
        have h6:(l.take k).length<=k:=List.length_take_le _ _
        omega
      have HL:=hid hL
      clear hL
      generalize zigzag x=m0 at *
      go_wp2
      go_loopw [3,6] (λ b u wr'=>∃ (m:Nat) (t:Bytes),u=.int .u64 (m:Int)/\m<18446744073709551616/\Hid (t++uvarint m=varsB (l.take (k+1)))/\t.length<=100000/\wr'.ownsRow w.heap.size 5 1 b t.length (byteCs t)/\Below w.heap.size w wr') (λ _ u _=>(Go.RowKit.intOf u).toNat)
      case atStart=>exact ⟨m0,_,rfl,hm,by show _=_;rw [hT.out],by omega,hown,hb⟩
      case round =>
        obtain ⟨m,t,rfl,hm',hS,htl,hown',hb'⟩:=hrel
        clear hz
        by_cases h128:128<=m
        · have h128':(128:Int)<=(m:Int):=by omega
          have ho:=u8_more m
          have hS':Hid ((t++[(m % 128+128).toUInt8])++uvarint (m / 128)=varsB (l.take (k+1))):=by
            show _=_
            rw [<- hS.out,uvarint_big h128]
            simp
          clear hS
          generalize (m % 128+128).toUInt8=x8 at ho hS'
          go_wp2_with (first
            | (at_builtin;go_must (refine wpList_append_own _ rfl _ _ 159 rfl w.heap.size 5 i0 (.int .u8 0) 1 1 Tryz.underlying159 hi hz0 hz1 hz2 rfl (by decide) _ _ _ rfl (hown'.alloc _) ⟨wr.heap.size,0,none⟩ 1 1 [.int .u8 x8.toNat] rfl rfl (one_new _ _ _) ?c2 ?c3 ?c4 ?c5 ?_)
               case c2=>simp [Value.oneCell']
               case c3=>unfold maxLen;omega
               case c4=>omega
               case c5=>have:=hb'.size;simp;omega
               intro v' w1 hown1 hgrow _
               rw [byteCs_snoc] at hown1
               have hb1:Below w.heap.size w w1:=(hb'.alloc hb'.size _).grown hgrow (by have:=hb'.size;simp;omega) (λ k hk=>(hown'.lt k hk).1)
               clear hown' hgrow))
          go_round
          case rel=>exact ⟨m / 128,t++[x8],by go_num,by omega,hS',by have h7:=congrArg List.length hS'.out;have h8:=HL.out;rw [List.length_append] at h7;omega,by simpa using hown1,hb1⟩
          case measure=>simp [Go.RowKit.intOf];omega
        · have h128':¬ (128:Int)<=(m:Int):=by omega
          have hS':Hid (t++[m.toUInt8]=varsB (l.take (k+1))):=by
            show _=_
            rw [<- hS.out,uvarint_small (by omega)]
          have ho:[Value.int .u8 (m:Int)]=[Value.int .u8 ((m.toUInt8.toNat:Nat):Int)]:=by
            have:=u8_last m (by omega)
            rw [<- this,IntKind.wrap_u8']
            congr 2
            omega
          clear hS
          generalize m.toUInt8=x8 at ho hS'
          have HO:=hid ho
          clear ho
          go_wp2_with (first
            | (at_builtin;go_must (refine wpList_append_own _ rfl _ _ 159 rfl w.heap.size 5 i0 (.int .u8 0) 1 1 Tryz.underlying159 hi hz0 hz1 hz2 rfl (by decide) _ _ _ rfl (hown'.alloc _) ⟨wr.heap.size,0,none⟩ 1 1 [.int .u8 (m:Int)] rfl rfl (one_new _ _ _) ?d2 ?d3 ?d4 ?d5 ?_)
               case d2=>simp [Value.oneCell']
               case d3=>unfold maxLen;omega
               case d4=>omega
               case d5=>have:=hb'.size;simp;omega
               intro v' w1 hown1 hgrow _
               rw [HO.out,byteCs_snoc] at hown1
               have hb1:Below w.heap.size w w1:=(hb'.alloc hb'.size _).grown hgrow (by have:=hb'.size;simp;omega) (λ k hk=>(hown'.lt k hk).1)
               clear hown' hgrow))
          go_roundw
          case rel=>exact ⟨k+1,by omega,by go_num,by rw [<- hS'.out];simpa using hown1,hb1⟩
          case measure=>simp [Go.RowKit.intOf];omega
    · have hkn:k=n:=by omega
      subst hkn
      have hkl:l.length=k:=by obtain ⟨_,_,e,_,h1,_⟩:=hv;simpa using h1
      have ht:l.take k=l:=List.take_of_length_le (by omega)
      rw [ht] at hown
      have hc:=own_text hown
      clear hv hown ht hkl
      go_wp2
      go_ret
      exact ⟨rfl,hb⟩
end Go.Ev
namespace Go.Ev
open Go.Proofs Go.RowKit
def Bd (w:World) (B b:Nat) (F:Option Nat) (l:Bytes):Prop:=
 B<=b/\∃ p v,(p=.pointer none\/p=.pointer (some ⟨b,0,none⟩))/\w.heap[b]? = some (.cells #[p,v] 161 (0,0))/\w.ownsRowF B 5 1 v l.length (Lib.byteCells l)/\v.ownBlock=F/\F≠some b
def BdS (b:Nat) (F:Option Nat) (k:Nat):Prop:=k=b\/some k=F
theorem Bd.lt {w:World} {B b:Nat} {F:Option Nat} {l:Bytes} (h:Bd w B b F l):b<w.heap.size:=by
 obtain ⟨_,p,v,_,h1,_⟩:=h
 exact (Array.getElem?_eq_some_iff.1 h1).1
theorem Bd.ne {w:World} {B b g:Nat} {F:Option Nat} {l:Bytes} {t:TypeId} {cs:Array Value} (h:Bd w B b F l) (hb:Blk w g t cs) (ht:t≠5):some g≠F:=by
 obtain ⟨_,p,v,_,h1,h2,h3,_⟩:=h
 rintro rfl
 rcases h2.2 with ⟨rfl,_⟩ | ⟨g',cap,cur,fz,rfl,_,hg,_⟩
 ·cases h3
 ·simp only [Value.ownBlock,Option.some.injEq] at h3
  subst h3
  unfold Blk at hb
  rw [hb] at hg
  simp only [Option.some.injEq,Obj.cells.injEq] at hg
  exact ht hg.2.1
theorem Bd.keeps {S:Nat->Prop} {w w':World} {B b:Nat} {F:Option Nat} {l:Bytes} (h:Bd w B b F l) (hk:Keeps S w w') (hb:¬ S b) (hF:∀ k,F=some k->¬ S k):Bd w' B b F l:=by
 have hlt:=h.lt
 obtain ⟨hB,p,v,h0,h1,h2,h3,h4⟩:=h
 refine ⟨hB,p,v,h0,(hk.block b hlt hb).trans h1,?_,h3,h4⟩
 refine ⟨h2.1,?_⟩
 rcases h2.2 with hn | ⟨g,cap,cur,fz,rfl,hb',hg,rest⟩
 ·exact .inl hn
 ·exact .inr ⟨g,cap,cur,fz,rfl,hb',(hk.block g (Array.getElem?_eq_some_iff.1 hg).1 (hF g (by rw [<- h3];rfl))).trans hg,rest⟩
theorem Bd.below {w w':World} {B b:Nat} {F:Option Nat} {l:Bytes} (h:Bd w B b F l) (hb:Below w.heap.size w w'):Bd w' B b F l:=h.keeps (S:=λ _=>False) (Keeps.of_below hb) id λ _ _=>id
theorem Bd.alloc {w:World} {B b:Nat} {F:Option Nat} {l:Bytes} (h:Bd w B b F l) (o:Obj):Bd (w.alloc o) B b F l:=h.below ((Below.refl _ _).alloc (Nat.le_refl _) o)
theorem Bd.drew {w:World} {B b:Nat} {F:Option Nat} {l:Bytes} (h:Bd w B b F l):Bd w.drew B b F l:=h
theorem Bd.new (w:World):Bd (w.alloc (.cells #[.pointer none,.slice none 0 0] 161)) w.heap.size w.heap.size none []:=
 ⟨Nat.le_refl _,_,_,.inl rfl,heap_alloc_new w _,World.ownsRowF_nil _ _ _ _,rfl,by simp⟩
def Used (w:World) (B b:Nat) (F:Option Nat) (l:Bytes):Prop:=
 ∃ v,w.heap[b]? = some (.cells #[.pointer (some ⟨b,0,none⟩),v] 161 (0,0))/\w.ownsRowF B 5 1 v l.length (Lib.byteCells l)/\v.ownBlock=F/\F≠some b
def Wrote (B b:Nat) (F:Option Nat) (l:Bytes) (w:World) (v:Value) (e:Ending) (w':World):Prop:=e=.returned v/\(∃ F',Bd w' B b F' l)/\Keeps (BdS b F) w w'
theorem check_any {w:World} {B b:Nat} {F:Option Nat} {l:Bytes} (h:Bd w B b F l) :
  Calls Tryz.prog 150 #[.pointer (some ⟨b,0,none⟩)] w λ e w'=>e=.returned (.tuple #[])/\Used w' B b F l/\Keeps (BdS b F) w w':=by
 obtain ⟨hB,p,v,hp,h1,h2,h3,h4⟩:=h
 rcases hp with rfl | rfl
 ·refine (Any.Builder_copyCheck_fresh Tryz.bCheck Tryz.bX.toX72 b w (by rw [Lib.cell_of_heap h1];rfl) (by simp [World.shape?,h1];rfl) (Lib.frozen_of_heap h1 0)).mono ?_
  rintro e w' ⟨rfl,rfl⟩
  refine ⟨rfl,⟨v,?_,?_,h3,h4⟩,(Keeps.refl _ _).setCell (λ _=>.inl rfl) _⟩
  ·simp [World.setCell,Array.getElem?_modify,h1]
  ·exact h2.kept (row:=some b) ⟨rfl,rfl,rfl,by simp [World.setCell],λ k _ hk=>Below.heap_setCell _ _ _ _ (λ e=>hk (by simp [e]))⟩ (.inr (by rw [h3];exact h4))
 ·refine (Any.Builder_copyCheck_used Tryz.bCheck Tryz.bX.toX72 b w (by rw [Lib.cell_of_heap h1];rfl)).mono ?_
  rintro e w' ⟨rfl,rfl⟩
  exact ⟨rfl,⟨v,h1,h2,h3,h4⟩,Keeps.refl _ _⟩
theorem Bd.put {w:World} {B b:Nat} {p v v':Value} {l:Bytes} (hB:B<=b) (hp:p=.pointer none\/p=.pointer (some ⟨b,0,none⟩)) (hb:w.heap[b]? = some (.cells #[p,v] 161 (0,0))) (hown:w.ownsRowF B 5 1 v' l.length (Lib.byteCells l)) :
  ∃ F',Bd (w.setCell ⟨b,1,none⟩ v') B b F' l:=by
 have hne:=Lib.ownBlock_neF hown hb (by decide)
 refine ⟨v'.ownBlock,hB,p,v',hp,?_,?_,rfl,hne⟩
 ·simp [World.setCell,Array.getElem?_modify,hb]
 ·exact hown.kept (row:=some b) ⟨rfl,rfl,rfl,by simp [World.setCell],λ k _ hk=>Below.heap_setCell _ _ _ _ (λ e=>hk (by simp [e]))⟩ (.inr hne)
theorem bw_string {w:World} {B b:Nat} {F:Option Nat} {l:Bytes} (h:Bd w B b F l) (s:Bytes) (hL:l.length+s.length<=1000000) (hBw:B<=w.heap.size) :
  Calls Tryz.prog 92 #[.pointer (some ⟨b,0,none⟩),.string ⟨s.toArray⟩] w (Wrote B b F (l++s) w (.tuple #[.int .i64 s.length,.nilIface])):=by
 obtain ⟨i0,hi,hz0,hz1,hz2⟩:=info_parts Tryz.bX.infoByte
 go_enter Tryz.func92,Tryz.ntmps92
 go_wp2_with (go_at_call 150;refine (check_any h).mono ?_)
 rintro e w1 ⟨rfl,h1,K1⟩
 obtain ⟨v,hbk,hown,hF,hne⟩:=h1
 have c0:w1.cell? ⟨b,0,none⟩=some (.pointer (some ⟨b,0,none⟩)):=by rw [Lib.cell_of_heap hbk];rfl
 have c1:w1.cell? ⟨b,1,none⟩=some v:=by rw [Lib.cell_of_heap hbk];rfl
 go_wp2_with (at_builtin;refine Lib.wpList_append_own_stringF _ rfl _ _ 159 9 rfl B 5 i0 Tryz.underlying159 Tryz.underlying9 hi hz0 hz1 hz2 _ _ _ rfl hown ⟨s.toArray⟩ rfl ?c3 ?c4 ?c5 ?_)
 case c3=>unfold maxLen;simp [ByteArray.size];omega
 case c4=>simp [ByteArray.size];omega
 case c5=>have:=K1.size;omega
 intro v' w2 hown' hgrow _
 have hlt:b<w1.heap.size:=(Array.getElem?_eq_some_iff.1 hbk).1
 have hb2:w2.heap[b]? = some (.cells #[.pointer (some ⟨b,0,none⟩),v] 161 (0,0)):=by
  rw [hgrow.block b hlt (λ e=>hne e.symm)]
  exact hbk
 have d1:w2.cell? ⟨b,1,none⟩=some v:=by rw [Lib.cell_of_heap hb2];rfl
 have f1:w2.frozen? ⟨b,1,none⟩=false:=Lib.frozen_of_heap hb2 1
 rw [show Lib.strCells ⟨s.toArray⟩=Lib.byteCells s from rfl,<- Lib.byteCells_append,<- List.length_append] at hown'
 obtain ⟨ao,n',cap,rfl⟩:∃ ao n' cap,v'=.slice ao n' cap:=by
  rcases hown'.2 with ⟨hv,_⟩ | ⟨g,cap,cur,fz,hv,_⟩
  ·exact ⟨_,_,_,hv⟩
  ·exact ⟨_,_,_,hv⟩
 go_wp2
 go_ret2
 refine ⟨rfl,Bd.put h.1 (.inr rfl) hb2 hown',?_⟩
 exact ((K1.grown hgrow (λ k hk _=>.inr hk.symm)).setCell (p:=⟨b,1,none⟩) (λ _=>.inl rfl) _)
theorem keeps_freeze {S:Nat->Prop} {a w:World} (h:Keeps S a w) {p:Addr} (hp:p.block<a.heap.size->S p.block) (n:Nat):Keeps S a (w.freeze p n):=by
 refine ⟨?_,?_,?_,?_,λ k hk hn=>?_⟩
 ·unfold World.freeze;split<;>exact h.os
 ·unfold World.freeze;split<;>exact h.tape
 ·unfold World.freeze;split<;>exact h.output
 ·unfold World.freeze;split
  ·exact h.size
  ·simpa using h.size
 ·have hne:p.block≠k:=by rintro rfl;exact hn (hp hk)
  unfold World.freeze
  split
  ·exact h.block k hk hn
  ·simp only [Array.getElem?_modify]
   rw [if_neg hne]
   exact h.block k hk hn
theorem bw_text_ne {w:World} {B b:Nat} {F:Option Nat} {l:Bytes} (h:Bd w B b F l) (h0:l≠[]) :
  Calls Tryz.prog 94 #[.pointer (some ⟨b,0,none⟩)] w (Wrote B b F l w (.string ⟨l.toArray⟩)):=by
 obtain ⟨hB,p,v,hp,hbk,hown,hF,hne⟩:=h
 have hl0:l.length≠0:=by simpa using h0
 obtain ⟨g,cap,cur,fz,rfl,hbg,hg,hfz,hnc,hcm,hcs,htake⟩:∃ g cap cur fz,v=.slice (some ⟨g,0,none⟩) l.length cap/\B<=g/\w.heap[g]? = some (.cells cur 5 fz)/\fz.2<=l.length*1/\l.length<=cap/\cap<=maxLen/\cur.size=cap*1/\cur.toList.take (l.length*1)=Lib.byteCells l:=by
  rcases hown.2 with ⟨_,hz⟩ | ⟨g,cap,cur,fz,hv,r⟩
  ·exact absurd hz hl0
  ·exact ⟨g,cap,cur,fz,hv,r⟩
 have c1:w.drew.cell? ⟨b,1,none⟩=some (.slice (some ⟨g,0,none⟩) l.length cap):=by
  have:w.drew.heap[b]? = some (.cells #[p,.slice (some ⟨g,0,none⟩) l.length cap] 161 (0,0)):=hbk
  rw [Lib.cell_of_heap this];rfl
 have hSD:(Builtin.unsafeSliceData_ #[159] 245 #[.slice (some ⟨g,0,none⟩) l.length cap]).run Tryz.prog w.drew=.ok (.pointer (some ⟨g,0,none⟩)) w.drew:=
  Lib.run_unsafeSliceData_row _ _ _ _ _ _ (by omega)
 have hUS:(Builtin.unsafeString_ #[245,3] 9 #[.pointer (some ⟨g,0,none⟩),.int .i64 l.length]).run Tryz.prog w.drew=.ok (.string ⟨l.toArray⟩) (w.drew.freeze ⟨g,0,none⟩ l.length):=by
  refine Lib.run_unsafeString_row w.drew 245 3 9 5 Tryz.underlying245 Tryz.bX.cellsByte g cur.size (by have hg':w.drew.heap[g]? = some (.cells cur 5 fz):=hg;simp [World.shape?,hg']) l h0 (by omega) (by unfold maxLen at hcm;omega) ?_
  intro j x hx
  exact hown.cells (g:=g) rfl j (.int .u8 x.toNat) (by simp [Lib.byteCells,hx])
 have hkeep:Bd (w.drew.freeze ⟨g,0,none⟩ l.length) B b F l:=by
  have hA:Lib.BuilderAtF 161 5 B b p (Lib.byteCells l) w.drew:=⟨hB,_,hbk,by rw [Lib.byteCells_length];exact hown,by rw [hF];exact hne⟩
  have hFz:=hA.froze (g:=g) (cap:=cap) (by rw [Lib.byteCells_length];exact c1)
  rw [Lib.byteCells_length] at hFz
  obtain ⟨_,v',k1,k2,k3⟩:=hFz
  rw [Lib.byteCells_length] at k2
  have e:v'=.slice (some ⟨g,0,none⟩) l.length cap:=by
   have hnb:g≠b:=λ e=>hne (by rw [<- hF,e];rfl)
   have:(w.drew.freeze ⟨g,0,none⟩ l.length).heap[b]? = w.heap[b]?:=by
    unfold World.freeze
    split
    ·rfl
    ·simp only [Array.getElem?_modify]
     rw [if_neg hnb]
     rfl
   rw [this,hbk] at k1
   simpa using k1.symm
  subst e
  exact ⟨hB,p,_,hp,k1,k2,hF,hne⟩
 go_enter Tryz.func94,Tryz.ntmps94
 go_wp2
 go_region
 all_goals (go_wp2;go_ret;exact ⟨rfl,⟨_,hkeep⟩,keeps_freeze (Keeps.refl _ _).drew (p:=⟨g,0,none⟩) (λ _=>.inr (by rw [<- hF];rfl)) _⟩)
theorem bw_text {w:World} {B b:Nat} {F:Option Nat} {l:Bytes} (h:Bd w B b F l) :
  Calls Tryz.prog 94 #[.pointer (some ⟨b,0,none⟩)] w λ e w'=>e=.returned (.string ⟨l.toArray⟩)/\Below B w w':=by
 have hlt:=h.lt
 obtain ⟨hB,p,v,hp,h1,h2,h3,h4⟩:=h
 refine (Any.Builder_String_any_f Tryz.bText Tryz.bX B b l w ?_ (by omega)).mono ?_
 ·rcases hp with rfl | rfl
  ·exact .inl ⟨hB,v,h1,by rw [Lib.byteCells_length];exact h2,by rw [h3];exact h4⟩
  ·exact .inr ⟨hB,v,h1,by rw [Lib.byteCells_length];exact h2,by rw [h3];exact h4⟩
 ·rintro e w' ⟨rfl,_,h2⟩
  exact ⟨rfl,h2⟩
theorem Bd.not {w:World} {B b g:Nat} {F:Option Nat} {l:Bytes} {t:TypeId} {cs:Array Value} (h:Bd w B b F l) (hb:Blk w g t cs) (ht:t≠5) (hg:g≠b):¬ BdS b F g:=by
 rintro (e | e)
 ·exact hg e
 ·exact h.ne hb ht e
theorem Bd.below_of {w w':World} {B b:Nat} {F:Option Nat} {l:Bytes} (h:Bd w B b F l) (hk:Keeps (BdS b F) w w') (hBw:B<=w.heap.size):Below B w w':=by
 obtain ⟨hB,p,v,hp,h1,h2,h3,h4⟩:=h
 refine hk.below hBw λ i hi hs=>?_
 rcases hs with rfl | hs
 ·omega
 ·have:=(h2.lt i (h3.trans hs.symm)).1
  omega
end Go.Ev
