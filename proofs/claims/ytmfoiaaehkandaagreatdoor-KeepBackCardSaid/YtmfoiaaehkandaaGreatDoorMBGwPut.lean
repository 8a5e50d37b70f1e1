/-
  Texts of this claim.
-/
import Derived.Test.YtmfoiaaehkandaaGreatDoorMBGvGet
import Derived.Test.YtmfoiaaehkandaaGreatDoorMBGwBuild
import Derived.Test.YtmfoiaaehkandaaGreatDoorMBGwReader
import Derived.WalkLawsBesides
set_option linter.unusedVariables false
set_option linter.unusedSimpArgs false
set_option maxHeartbeats 4000000
set_option maxRecDepth 100000
namespace Go.Ev
open Go.Proofs Go.RowKit
theorem textsB_append:∀ a b:List Bytes,textsB (a++b)=textsB a++textsB b
 | [],_=>rfl
 | x :: a,b=>by simp [textsB,textsB_append a b]
theorem textsB_take {l:List Bytes} {k:Nat} (h:k<l.length):textsB (l.take (k+1))=textsB (l.take k)++textB l[k]:=by
 rw [List.take_succ_eq_append_getElem h,textsB_append]
 simp [textsB]
theorem textsB_le (l:List Bytes) (k:Nat):(textsB (l.take k)).length<=(textsB l).length:=by
 have:textsB l=textsB (l.take k)++textsB (l.drop k):=by rw [<- textsB_append,List.take_append_drop]
 rw [this,List.length_append]
 omega
theorem var1 (x:Int) (T:TypeId) (w:World) (hx:I64 x) :
  Calls Tryz.prog 84 #[.slice (some ⟨w.heap.size,0,none⟩) 1 1] (w.alloc (.cells #[.int .i64 x] T)) λ e w'=>e=.returned (strV (varB x))/\Below (w.alloc (.cells #[.int .i64 x] T)).heap.size (w.alloc (.cells #[.int .i64 x] T)) w':=by
 refine (vars_any _ 1 1 [x] _ ⟨_,_,rfl,Nat.le_refl _,by simp,λ _=>⟨w.heap.size,0,rfl,by simp,λ j u hu=>?_⟩⟩ (by simpa using hx) (by omega)).mono ?_
 ·cases j with
  | zero=>cases hu;exact World.cell?_alloc_at _ _ _ _ rfl
  | succ j=>simp at hu
 ·rintro e w' ⟨rfl,hb⟩
  exact ⟨by simp [varsB,strV],hb⟩
theorem texts_any (A:Option Addr) (n c:Nat) (l:List Bytes) (w:World) (hv:Sl w 1 (.slice A n c) n (l.map strV)) (hL:(textsB l).length<=100000) (hn:n<=100000) :
  Calls Tryz.prog 93 #[.slice A n c] w λ e w'=>e=.returned (strV (textsB l))/\Below w.heap.size w w':=by
 have hl1:l.length=n:=by obtain ⟨_,_,e,_,h1,_⟩:=hv;simpa using h1
 go_enter Tryz.func93,Tryz.ntmps93
 go_wp2
 go_loopw [8] (λ i wr=>∃ (k:Nat) (F:Option Nat),k<=n/\i=.int .i64 (k:Int)/\Bd wr w.heap.size w.heap.size F (textsB (l.take k))/\Below w.heap.size w wr) (λ i _=>n-(Go.RowKit.intOf i).toNat)
 case atStart=>exact ⟨0,none,by omega,rfl,Bd.new w,(Below.refl _ _).alloc (Nat.le_refl _) _⟩
 case round =>
  obtain ⟨k,F,hk,rfl,hB,hb⟩:=hrel
  have hT:=textsB_le l k
  have hz:=hb.size
  by_cases hlt:k<n
  ·obtain ⟨A',c',e0,h0,h1,h2⟩:=hv
   cases e0
   obtain ⟨blk,off,rfl,hbl,hcell⟩:=h2 (by omega)
   have hk':k<l.length:=by omega
   have hc:wr.cell? ⟨blk,off+k,none⟩=some (strV l[k]):=(hb.cell (p:=⟨blk,off+k,none⟩) hbl).trans (hcell k _ (by simp [hk']))
   have hS:Hid (textsB (l.take (k+1))=textsB (l.take k)++(varB l[k].length++l[k])):=textsB_take hk'
   have hT1:=textsB_le l (k+1)
   have hT2:(textsB (l.take k)).length+((varB l[k].length).length+l[k].length)<=100000:=by
    have:=congrArg List.length hS.out
    simp only [List.length_append] at this
    omega
   clear hcell h2 h1 hl1 hT1
   generalize l[k]=s at *
   unfold strV at hc
   have hsl:s.length<=100000:=by omega
   go_wp2_with (first
    | (go_at_call 84;refine (var1 _ _ _ ⟨by omega,by omega⟩).mono ?_;rintro e w1 ⟨rfl,hb1⟩;have hB1:=(hB.alloc _).below hb1;have hz1:=hb1.size;rw [World.size_alloc] at hz1)
    | (go_at_call 92;go_must (refine (bw_string (hB1) _ (by simp;omega) (by omega)).mono ?_);rintro e w2 ⟨rfl,⟨F2,hB2⟩,K2⟩))
   go_roundw
   case rel=>exact ⟨k+1,F2,by omega,by go_num,by rw [hS.out];exact hB2,hb.trans (((Below.refl _ _).alloc hz _).trans ((hb1.mono (by rw [World.size_alloc];omega)).trans (hB1.below_of K2 (by omega))))⟩
   case measure=>simp [Go.RowKit.intOf];omega
  ·have hkn:k=n:=by omega
   subst hkn
   have ht:l.take k=l:=List.take_of_length_le (by omega)
   rw [ht] at hB
   clear hv ht hl1
   go_wp2_with (go_at_call 94;refine (bw_text hB).mono ?_;rintro e w1 ⟨rfl,hb1⟩)
   go_ret
   exact ⟨rfl,hb.trans hb1⟩
def itemCs (x:Item):List Value:=[strV x.key,strV x.val,.int .i64 x.over,.int .i64 x.size]
def itemsCs:List Item->List Value
 | []=>[]
 | x :: l=>itemCs x++itemsCs l
theorem itemsCs_len:∀ l:List Item,(itemsCs l).length=l.length*4
 | []=>rfl
 | x :: l=>by
  simp only [itemsCs,List.length_append,itemsCs_len l,List.length_cons]
  show 4+_=_
  omega
theorem itemsCs_at:∀ (l:List Item) (k j:Nat) (hk:k<l.length),j<4->(itemsCs l)[k*4+j]? = (itemCs l[k])[j]?
 | x :: l,0,j,hk,hj=>by
  simp only [itemsCs,Nat.zero_mul,Nat.zero_add,List.getElem_cons_zero]
  rw [List.getElem?_append_left (by show j<4;omega)]
 | x :: l,k+1,j,hk,hj=>by
  simp only [itemsCs,List.getElem_cons_succ]
  rw [List.getElem?_append_right (by show 4<=_;omega)]
  have e:(k+1)*4+j-(itemCs x).length=k*4+j:=by show (k+1)*4+j-4=_;omega
  rw [e]
  exact itemsCs_at l k j (by simpa using hk) hj
theorem load_cells {w:World} {t:TypeId} {b o:Nat} (vs:List Value) (hB:rowB0 Tryz.prog t vs.length=true) (h:∀ j u,vs[j]? = some u->w.cell? ⟨b,o+j,none⟩=some u) :
  (Instr.loadAt t (.pointer (some ⟨b,o,none⟩))).run Tryz.prog w=.ok (.agg vs.toArray) w:=by
 unfold rowB0 at hB
 simp only [Bool.and_eq_true,beq_iff_eq] at hB
 obtain ⟨h1,h2⟩:=hB
 split at h1
 ·rename_i d hd
  exact run_loadAt_mid w b o t vs d h hd h1 h2
 ·cases h1
theorem item_cells {w:World} {blk off n:Nat} {l:List Item} (hcell:∀ j u,(itemsCs l)[j]? = some u->w.cell? ⟨blk,off+j,none⟩=some u) {k:Nat} (hk:k<l.length):∀ j u,(itemCs l[k])[j]? = some u->w.cell? ⟨blk,off+k*4+j,none⟩=some u:=by
 intro j u hu
 have hj:j<4:=(List.getElem?_eq_some_iff.1 hu).1
 rw [Nat.add_assoc]
 exact hcell _ _ ((itemsCs_at l k j hk hj).trans hu)
theorem bool_lay (b:Bool) (w:World):Calls Tryz.prog 267 #[.bool b] w λ e w'=>e=.returned (strV (boolB b))/\w'=w:=by
 cases b
 ·go_enter Tryz.func267,Tryz.ntmps267
  go_wp2
  go_ret
  exact ⟨rfl,rfl⟩
 ·go_enter Tryz.func267,Tryz.ntmps267
  go_wp2
  go_ret
  exact ⟨rfl,rfl⟩
theorem layI_take {l:List Item} {k:Nat} (h:k<l.length):layI (l.take (k+1))=layI (l.take k)++l[k].lay:=by
 rw [List.take_succ_eq_append_getElem h,layI_append]
 simp [layI]
theorem layI_le (l:List Item) (k:Nat):(layI (l.take k)).length<=(layI l).length:=by
 have:layI l=layI (l.take k)++layI (l.drop k):=by rw [<- layI_append,List.take_append_drop]
 rw [this,List.length_append]
 omega
theorem text_at (g:Nat) (s:Bytes) (W:World) (hg:g<W.heap.size) (hc:W.cell? ⟨g,0,none⟩=some (strV s)) (hs:(textB s).length<=100000) :
  Calls Tryz.prog 93 #[.slice (some ⟨g,0,none⟩) 1 1] W λ e w'=>e=.returned (strV (textB s))/\Below W.heap.size W w':=by
 refine (texts_any _ 1 1 [s] _ ⟨_,_,rfl,Nat.le_refl _,by simp,λ _=>⟨g,0,rfl,hg,λ j u hu=>?_⟩⟩ (by simpa [textsB] using hs) (by omega)).mono ?_
 ·cases j with
  | zero=>cases hu;exact hc
  | succ j=>simp at hu
 ·rintro e w' ⟨rfl,hb⟩
  exact ⟨by simp [textsB],hb⟩
theorem var2_at (g:Nat) (x y:Int) (W:World) (hg:g<W.heap.size) (hc:W.cell? ⟨g,0,none⟩=some (.int .i64 x)) (hd:W.cell? ⟨g,1,none⟩=some (.int .i64 y)) (hx:I64 x) (hy:I64 y) :
  Calls Tryz.prog 84 #[.slice (some ⟨g,0,none⟩) 2 2] W λ e w'=>e=.returned (strV (varB x++varB y))/\Below W.heap.size W w':=by
 refine (vars_any _ 2 2 [x,y] _ ⟨_,_,rfl,Nat.le_refl _,by simp,λ _=>⟨g,0,rfl,hg,λ j u hu=>?_⟩⟩ (by simp [hx,hy]) (by omega)).mono ?_
 ·match j with
  | 0=>cases hu;exact hc
  | 1=>cases hu;exact hd
  | j+2=>simp at hu
 ·rintro e w' ⟨rfl,hb⟩
  exact ⟨by simp [varsB],hb⟩
theorem lay_in {x:Item} (h:(x.over != 0)=false):x.lay=textB x.key++boolB false++textB x.val:=by
 have ho:x.over=0:=by simpa using h
 simp [Item.lay,ho]
theorem lay_out {x:Item} (h:(x.over != 0)=true):x.lay=textB x.key++boolB true++(varB x.over++varB x.size):=by
 have ho:¬ x.over=0:=by simpa using h
 unfold Item.lay
 rw [h,if_pos ho]
def BoxI (w:World) (g:Nat) (x:Item):Prop:=Blk w g 223 #[strV x.key,strV x.val,.int .i64 x.over,.int .i64 x.size]
theorem BoxI.c {w:World} {g:Nat} {x:Item} (h:BoxI w g x):w.cell? ⟨g,0,none⟩=some (strV x.key)/\w.cell? ⟨g,2,none⟩=some (.int .i64 x.over)/\w.cell? ⟨g,1,none⟩=some (strV x.val)/\w.cell? ⟨g,3,none⟩=some (.int .i64 x.size):=
 ⟨Blk.cell h 0,Blk.cell h 2,Blk.cell h 1,Blk.cell h 3⟩
theorem lay_any (A:Option Addr) (n c:Nat) (l:List Item) (w:World) (hv:Sl w 4 (.slice A n c) n (itemsCs l)) (hL:(layI l).length<=100000) (hn:n<=100000) (hI:∀ x∈l,I64 x.over/\I64 x.size) :
  Calls Tryz.prog 235 #[.slice A n c] w λ e w'=>e=.returned (strV (layI l))/\Below w.heap.size w w':=by
 have hl1:l.length=n:=by obtain ⟨_,_,e,_,h1,_⟩:=hv;rw [itemsCs_len] at h1;omega
 go_enter Tryz.func235,Tryz.ntmps235
 go_wp2
 go_loopw [8] (λ i wr=>∃ (k:Nat) (F:Option Nat),k<=n/\i=.int .i64 (k:Int)/\Bd wr w.heap.size w.heap.size F (layI (l.take k))/\Below w.heap.size w wr) (λ i _=>n-(Go.RowKit.intOf i).toNat)
 case atStart=>exact ⟨0,none,by omega,rfl,Bd.new w,(Below.refl _ _).alloc (Nat.le_refl _) _⟩
 case round =>
  obtain ⟨k,F,hk,rfl,hB,hb⟩:=hrel
  have hT:=layI_le l k
  have hz:=hb.size
  by_cases hlt:k<n
  ·obtain ⟨A',c',e0,h0,h1,h2⟩:=hv
   cases e0
   obtain ⟨blk,off,rfl,hbl,hcell⟩:=h2 (by omega)
   have hk':k<l.length:=by omega
   have hi:=item_cells (n:=n) hcell hk'
   have i0:wr.cell? ⟨blk,off+k*4,none⟩=some (strV l[k].key):=(hb.cell (p:=⟨blk,off+k*4,none⟩) hbl).trans (hi 0 _ rfl)
   have i1:wr.cell? ⟨blk,off+k*4+1,none⟩=some (strV l[k].val):=(hb.cell (p:=⟨blk,off+k*4+1,none⟩) hbl).trans (hi 1 _ rfl)
   have i2:wr.cell? ⟨blk,off+k*4+2,none⟩=some (.int .i64 l[k].over):=(hb.cell (p:=⟨blk,off+k*4+2,none⟩) hbl).trans (hi 2 _ rfl)
   have i3:wr.cell? ⟨blk,off+k*4+3,none⟩=some (.int .i64 l[k].size):=(hb.cell (p:=⟨blk,off+k*4+3,none⟩) hbl).trans (hi 3 _ rfl)
   have hS:Hid (layI (l.take (k+1))=layI (l.take k)++l[k].lay):=layI_take hk'
   have hT1:=layI_le l (k+1)
   obtain ⟨hI1,hI2⟩:=hI l[k] (List.getElem_mem hk')
   have hT2:(layI (l.take k)).length+(l[k].lay).length<=100000:=by
    have:=congrArg List.length hS.out
    simp only [List.length_append] at this
    omega
   clear hi hcell h2 h1 hl1 hT1 hI
   generalize l[k]=x at *
   have hx0:(textB x.key).length<=100000:=by
    simp only [Item.lay,List.length_append] at hT2
    omega
   have bx0:BoxI (wr.alloc (.cells #[strV x.key,strV x.val,.int .i64 x.over,.int .i64 x.size] 223)) wr.heap.size x:=Blk.new _ _ _
   have hgb:wr.heap.size≠w.heap.size:=by have:=hB.lt;omega
   cases hq:(x.over != 0)
   ·have ho:x.over=0:=by simpa using hq
    have hx1:(layI (l.take k)).length+((textB x.key).length+(boolB false).length+(textB x.val).length)<=100000:=by
     simp only [Item.lay,ho,List.length_append] at hT2
     simpa using hT2
    have hx2:(textB x.val).length<=100000:=by omega
    clear ho
    go_wp2
    obtain ⟨p0,p2,p1,p3⟩:=BoxI.c bx0
    go_region_with (first
     | (go_at_call 93;go_must (refine (text_at _ _ _ (by simp) (World.cell?_alloc_at _ _ _ 0 (by simp)) hx0).mono ?_);rintro e w1 ⟨rfl,hb1⟩;have hB1:=((hB.alloc _).alloc _).drew.below hb1;have bx1:=(Blk.alloc bx0 _).drew.below' hb1;have q1:=BoxI.c bx1)
     | (go_at_call 267;refine (bool_lay _ _).mono ?_;rintro e w1' ⟨rfl,rfl⟩)
     | (go_at_call 92;go_must (refine (bw_string hB1 _ (by simp;omega) (by have:=hb1.size;simp at this;omega)).mono ?_);rintro e w2 ⟨rfl,⟨F2,hB2⟩,K2⟩;have bx2:=Blk.keeps bx1 K2 (hB1.not bx1 (by decide) hgb);have q2:=BoxI.c bx2;have z2:=K2.size;have z1:=hb1.size;simp at z1))
    all_goals go_wp2_with (first
     | (go_at_call 93;go_must (refine (text_at _ _ _ (by simp) (World.cell?_alloc_at _ _ _ 0 rfl) hx2).mono ?_);rintro e w3 ⟨rfl,hb3⟩;have hB3:=(hB2.alloc _).below hb3;have bx3:=(Blk.alloc bx2 _).below' hb3)
     | (go_at_call 92;go_must (refine (bw_string hB3 _ (by simp;omega) (by have:=hb3.size;simp at this;omega)).mono ?_);rintro e w4 ⟨rfl,⟨F4,hB4⟩,K4⟩))
    all_goals
     go_roundw
     case rel =>
      refine ⟨k+1,F4,by omega,by go_num,?_,?_⟩
      ·rw [hS.out,lay_in hq]
       simpa [List.append_assoc] using hB4
      ·have z3:=hb3.size
       simp at z3
       exact ((((((hb.alloc hz _).alloc (by simp;omega) _).drew.trans (hb1.mono (by simp;omega))).trans (hB1.below_of K2 (by omega))).alloc (by omega) _).trans (hb3.mono (by simp;omega))).trans (hB3.below_of K4 (by omega))
     case measure=>simp [Go.RowKit.intOf];omega
   ·have hx1:(layI (l.take k)).length+((textB x.key).length+(boolB true).length+((varB x.over).length+(varB x.size).length))<=100000:=by
     rw [lay_out hq] at hT2
     simp only [List.length_append] at hT2
     omega
    go_wp2
    obtain ⟨p0,p2,p1,p3⟩:=BoxI.c bx0
    go_region_with (first
     | (go_at_call 93;go_must (refine (text_at _ _ _ (by simp) (World.cell?_alloc_at _ _ _ 0 (by simp)) hx0).mono ?_);rintro e w1 ⟨rfl,hb1⟩;have hB1:=((hB.alloc _).alloc _).drew.below hb1;have bx1:=(Blk.alloc bx0 _).drew.below' hb1;have q1:=BoxI.c bx1)
     | (go_at_call 267;refine (bool_lay _ _).mono ?_;rintro e w1' ⟨rfl,rfl⟩)
     | (go_at_call 92;go_must (refine (bw_string hB1 _ (by simp;omega) (by have:=hb1.size;simp at this;omega)).mono ?_);rintro e w2 ⟨rfl,⟨F2,hB2⟩,K2⟩;have bx2:=Blk.keeps bx1 K2 (hB1.not bx1 (by decide) hgb);have q2:=BoxI.c bx2;have z2:=K2.size;have z1:=hb1.size;simp at z1))
    all_goals go_wp2_with (first
     | (go_at_call 84;go_must (refine (var2_at _ _ _ _ (by simp) (World.cell?_alloc_at _ _ _ 0 rfl) (World.cell?_alloc_at _ _ _ 1 rfl) hI1 hI2).mono ?_);rintro e w3 ⟨rfl,hb3⟩;have hB3:=(hB2.alloc _).below hb3;have bx3:=(Blk.alloc bx2 _).below' hb3)
     | (go_at_call 92;go_must (refine (bw_string hB3 _ (by simp;omega) (by have:=hb3.size;simp at this;omega)).mono ?_);rintro e w4 ⟨rfl,⟨F4,hB4⟩,K4⟩))
    all_goals
     go_roundw
     case rel =>
      refine ⟨k+1,F4,by omega,by go_num,?_,?_⟩
      ·rw [hS.out,lay_out hq]
       simpa [List.append_assoc] using hB4
      ·have z3:=hb3.size
       simp at z3
       exact ((((((hb.alloc hz _).alloc (by simp;omega) _).drew.trans (hb1.mono (by simp;omega))).trans (hB1.below_of K2 (by omega))).alloc (by omega) _).trans (hb3.mono (by simp;omega))).trans (hB3.below_of K4 (by omega))
     case measure=>simp [Go.RowKit.intOf];omega
  ·have hkn:k=n:=by omega
   subst hkn
   have ht:l.take k=l:=List.take_of_length_le (by omega)
   rw [ht] at hB
   clear hv ht hl1
   go_wp2_with (go_at_call 94;refine (bw_text hB).mono ?_;rintro e w1 ⟨rfl,hb1⟩)
   go_ret
   exact ⟨rfl,hb.trans hb1⟩
theorem inLeaf_any (n a b:Int) (w:World):Calls Tryz.prog 289 #[.int .i64 n,.int .i64 a,.int .i64 b] w λ e w'=>e=.returned (.bool (inB n a b))/\w'=w:=by
 go_enter Tryz.func289,Tryz.ntmps289
 go_wp2
 ·rename_i h
  go_ret
  exact ⟨by simp [inB,h],rfl⟩
 ·rename_i h
  go_ret
  exact ⟨by simp [inB,show ¬ a<=n by omega],rfl⟩
theorem right_any (x:Item) (w:World) (hk:x.key.length<=9223372036854775807) (hv:x.val.length<=9223372036854775807) :
  Calls Tryz.prog 266 #[.agg #[strV x.key,strV x.val,.int .i64 x.over,.int .i64 x.size]] w λ e w'=>e=.returned (.bool x.right)/\Below w.heap.size w w':=by
 have hB:Below w.heap.size w (w.alloc (.cells #[strV x.key,strV x.val,.int .i64 x.over,.int .i64 x.size] 223)):=(Below.refl _ _).alloc (Nat.le_refl _) _
 cases h1:inB x.key.length 1 40
 ·have hr:=Hdz (show x.right=false by simp [Item.right,h1])
  go_enter Tryz.func266,Tryz.ntmps266
  go_wp2_with (go_at_call 289;refine (inLeaf_any _ _ _ _).mono ?_;rintro e w1 ⟨rfl,rfl⟩)
  go_ret
  exact ⟨(ret_b hr.out).symm,hB⟩
 ·by_cases h2:x.over=0
  ·have h2':(x.over==0)=true:=by simp [h2]
   cases h3:decide (x.size=0)
   ·have hr:=Hdz (show x.right=false by simp only [Item.right,h1,if_pos h2,h3];rfl)
    have h3':(x.size==0)=false:=by simpa using h3
    clear h2
    go_enter Tryz.func266,Tryz.ntmps266
    go_wp2_with (go_at_call 289;refine (inLeaf_any _ _ _ _).mono ?_;rintro e w1 ⟨rfl,rfl⟩)
    go_ret
    exact ⟨(ret_b hr.out).symm,hB⟩
   ·have hr:=Hdz (show x.right=decide (x.val.length<=60) by simp only [Item.right,h1,if_pos h2,h3];simp)
    have h3':(x.size==0)=true:=by simpa using h3
    clear h2
    go_enter Tryz.func266,Tryz.ntmps266
    go_wp2_with (go_at_call 289;refine (inLeaf_any _ _ _ _).mono ?_;rintro e w1 ⟨rfl,rfl⟩)
    go_ret
    exact ⟨(ret_b (hr.out.trans (by simp;omega))).symm,hB⟩
  ·have h2':(x.over==0)=false:=by simp [h2]
   have hr:=Hdz (show x.right=(inB x.over 1 4294967295 && inB x.size 61 2000 && x.val.isEmpty) by simp only [Item.right,h1,if_neg h2];simp)
   clear h2
   cases h3:inB x.over 1 4294967295
   ·go_enter Tryz.func266,Tryz.ntmps266
    go_wp2_with (go_at_call 289;refine (inLeaf_any _ _ _ _).mono ?_;rintro e w1 ⟨rfl,rfl⟩)
    go_ret
    exact ⟨(ret_b (hr.out.trans (by rw [h3];rfl))).symm,hB⟩
   ·cases h4:inB x.size 61 2000
    ·go_enter Tryz.func266,Tryz.ntmps266
     go_wp2_with (go_at_call 289;refine (inLeaf_any _ _ _ _).mono ?_;rintro e w1 ⟨rfl,rfl⟩)
     go_ret
     exact ⟨(ret_b (hr.out.trans (by rw [h3,h4];rfl))).symm,hB⟩
    ·go_enter Tryz.func266,Tryz.ntmps266
     go_wp2_with (go_at_call 289;refine (inLeaf_any _ _ _ _).mono ?_;rintro e w1 ⟨rfl,rfl⟩)
     all_goals (go_ret;exact ⟨(ret_b (hr.out.trans (by rw [h3,h4];simp))).symm,hB⟩)
theorem item_4 {w:World} {blk o:Nat} {x:Item} (h:∀ j u,(itemCs x)[j]? = some u->w.cell? ⟨blk,o+j,none⟩=some u) :
  w.cell? ⟨blk,o,none⟩=some (strV x.key)/\w.cell? ⟨blk,o+1,none⟩=some (strV x.val)/\w.cell? ⟨blk,o+2,none⟩=some (.int .i64 x.over)/\w.cell? ⟨blk,o+3,none⟩=some (.int .i64 x.size):=
 ⟨h 0 _ rfl,h 1 _ rfl,h 2 _ rfl,h 3 _ rfl⟩
def KeysOk (l:List Item):Prop:=∀ x∈l,x.key.length<=9223372036854775807/\x.val.length<=9223372036854775807
theorem rise_any (A:Option Addr) (n c:Nat) (l:List Item) (w:World) (hv:Sl w 4 (.slice A n c) n (itemsCs l)) (hn:n<=100000) (hK:KeysOk l) :
  Calls Tryz.prog 234 #[.slice A n c] w λ e w'=>e=.returned (.bool (riseI l))/\Below w.heap.size w w':=by
 have hl1:l.length=n:=by obtain ⟨_,_,e,_,h1,_⟩:=hv;rw [itemsCs_len] at h1;omega
 go_enter Tryz.func234,Tryz.ntmps234
 go_wp2
 go_loopw [7] (λ i wr=>∃ (k:Nat),k<=n/\i=.int .i64 (k:Int)/\Hid (riseI (l.take k)=true)/\Below w.heap.size w wr) (λ i _=>n-(Go.RowKit.intOf i).toNat)
 case atStart=>exact ⟨0,by omega,rfl,rfl,Below.refl _ _⟩
 case round =>
  obtain ⟨k,hk,rfl,hR,hb⟩:=hrel
  have hz:=hb.size
  by_cases hlt:k<n
  ·obtain ⟨A',c',e0,h0,h1,h2⟩:=hv
   cases e0
   obtain ⟨blk,off,rfl,hbl,hcell⟩:=h2 (by omega)
   have hk':k<l.length:=by omega
   obtain ⟨i0,i1,i2,i3⟩:=item_4 (w:=wr) λ j u hu=>(hb.cell (p:=⟨blk,off+k*4+j,none⟩) hbl).trans (item_cells (n:=n) hcell hk' j u hu)
   obtain ⟨hx1,hx2⟩:=hK l[k] (List.getElem_mem hk')
   have hS:=Hdz (riseI_step hk' hR.out)
   have hF:=Hdz (riseI_fail hk' hR.out)
   cases k with
   | zero =>
    have hE:Hid (stepI l 0 hk'=l[0].right):=by show _=_;simp [stepI]
    simp only [Nat.zero_mul,Nat.add_zero] at i0 i1 i2 i3
    generalize l[0]=x at *
    clear hcell h2 h1 hK
    have bx0:BoxI (wr.alloc (.cells #[strV x.key,strV x.val,.int .i64 x.over,.int .i64 x.size] 223)) wr.heap.size x:=Blk.new _ _ _
    have hC:=λ W=>right_any x W hx1 hx2
    cases hr:x.right
    ·simp only [hr] at hC
     have hD:=Hdz (hF.out (hE.out.trans hr))
     clear hr hS hF hE
     go_wp2
     obtain ⟨p0,p2,p1,p3⟩:=BoxI.c bx0
     refine wRz ?_
     refine rZz 0 λ K hK=>?_;go_simp;apply hK;clear hK K
     refine rZz 1 λ K hK=>?_;go_simp
     (go_at_call 266;go_must (refine (hC _).mono ?_);rintro e w1 ⟨rfl,hb1⟩)
     go_simp
     apply hK
     clear hK K
     refine rZz 2 λ K hK=>?_;go_simp;apply hK;clear hK K
     refine rZz 3 λ K hK=>?_;go_simp;apply hK;clear hK K
     try simp only [lAz]
     refine sA 4 ?_;try simp only [lAz]
     refine sA 5 ?_;try simp only [lAz]
     refine sA 6 ?_;try simp only [lAz]
     refine sA 7 ?_;try simp only [lAz]
     refine sA 8 ?_;try simp only [lAz]
     refine sA 9 ?_;try simp only [lAz]
     refine sA 10 ?_;try simp only [lAz]
     refine sA 11 ?_;try simp only [lAz]
     refine sA 12 ?_;try simp only [lAz]
     refine sA 13 ?_;try simp only [lAz]
     refine sA 14 ?_;try simp only [lAz]
     refine sA 15 ?_;try simp only [lAz]
     refine sA 16 ?_;try simp only [lAz]
     refine rZz 17 λ K hK=>?_;go_simp;apply hK;clear hK K
     refine wDz ?_
     go_wp2
     go_ret
     exact ⟨(ret_b hD.out).symm,((hb.alloc hz _).drew.trans (hb1.mono (by simp;omega)))⟩
    ·simp only [hr] at hC
     have hD:=Hdz (hS.out.trans (hE.out.trans hr))
     clear hr hS hF hE
     go_wp2
     obtain ⟨p0,p2,p1,p3⟩:=BoxI.c bx0
     refine wRz ?_
     refine rZz 0 λ K hK=>?_;go_simp;apply hK;clear hK K
     refine rZz 1 λ K hK=>?_;go_simp
     (go_at_call 266;go_must (refine (hC _).mono ?_);rintro e w1 ⟨rfl,hb1⟩)
     go_simp
     apply hK
     clear hK K
     refine rZz 2 λ K hK=>?_;go_simp;apply hK;clear hK K
     refine rZz 3 λ K hK=>?_;go_simp;apply hK;clear hK K
     refine rZz 4 λ K hK=>?_;go_simp;apply hK;clear hK K
     refine rZz 5 λ K hK=>?_;go_simp;apply hK;clear hK K
     refine rZz 6 λ K hK=>?_;go_simp;apply hK;clear hK K
     try simp only [lAz]
     refine sA 7 ?_;try simp only [lAz]
     refine sA 8 ?_;try simp only [lAz]
     refine sA 9 ?_;try simp only [lAz]
     refine sA 10 ?_;try simp only [lAz]
     refine sA 11 ?_;try simp only [lAz]
     refine sA 12 ?_;try simp only [lAz]
     refine sA 13 ?_;try simp only [lAz]
     refine sA 14 ?_;try simp only [lAz]
     refine sA 15 ?_;try simp only [lAz]
     refine rZz 16 λ K hK=>?_;go_simp;apply hK;clear hK K
     refine rZz 17 λ K hK=>?_;go_simp;apply hK;clear hK K
     refine wDz ?_
     go_wp2
     go_roundw
     case rel=>exact ⟨1,by omega,by go_num,hD,((hb.alloc hz _).drew.trans (hb1.mono (by simp;omega)))⟩
     case measure=>simp [Go.RowKit.intOf];omega
   | succ j =>
    have hE:Hid (stepI l (j+1) hk'=(l[j+1].right && lessB l[j].key l[j+1].key)):=by show _=_;simp [stepI]
    have hj:j<l.length:=by omega
    obtain ⟨j0,_⟩:=item_4 (w:=wr) λ i u hu=>(hb.cell (p:=⟨blk,off+j*4+i,none⟩) hbl).trans (item_cells (n:=n) hcell hj i u hu)
    have hlj:(0:Int)<=(j:Int)/\(j:Int)<(n:Int):=by omega
    obtain ⟨hlj1,hlj2⟩:=hlj
    have hw:IntKind.i64.wrap (j:Int)=(j:Int):=IntWalk.i64_in _ (by omega)
    generalize l[j+1]=x at *
    generalize l[j]=y at *
    clear hcell h2 h1 hK
    have bx0:BoxI (wr.alloc (.cells #[strV x.key,strV x.val,.int .i64 x.over,.int .i64 x.size] 223)) wr.heap.size x:=Blk.new _ _ _
    have hC:=λ W=>right_any x W hx1 hx2
    cases hr:x.right
    ·simp only [hr] at hC
     have hD:=Hdz (hF.out (by rw [hE.out,hr];rfl))
     clear hr hS hF hE
     go_wp2
     obtain ⟨p0,p2,p1,p3⟩:=BoxI.c bx0
     refine wRz ?_
     refine rZz 0 λ K hK=>?_;go_simp;apply hK;clear hK K
     refine rZz 1 λ K hK=>?_;go_simp
     (go_at_call 266;go_must (refine (hC _).mono ?_);rintro e w1 ⟨rfl,hb1⟩)
     go_simp
     apply hK
     clear hK K
     refine rZz 2 λ K hK=>?_;go_simp;apply hK;clear hK K
     refine rZz 3 λ K hK=>?_;go_simp;apply hK;clear hK K
     try simp only [lAz]
     refine sA 4 ?_;try simp only [lAz]
     refine sA 5 ?_;try simp only [lAz]
     refine sA 6 ?_;try simp only [lAz]
     refine sA 7 ?_;try simp only [lAz]
     refine sA 8 ?_;try simp only [lAz]
     refine sA 9 ?_;try simp only [lAz]
     refine sA 10 ?_;try simp only [lAz]
     refine sA 11 ?_;try simp only [lAz]
     refine sA 12 ?_;try simp only [lAz]
     refine sA 13 ?_;try simp only [lAz]
     refine sA 14 ?_;try simp only [lAz]
     refine sA 15 ?_;try simp only [lAz]
     refine sA 16 ?_;try simp only [lAz]
     refine rZz 17 λ K hK=>?_;go_simp;apply hK;clear hK K
     refine wDz ?_
     go_wp2
     go_ret
     exact ⟨(ret_b hD.out).symm,((hb.alloc hz _).drew.trans (hb1.mono (by simp;omega)))⟩
    ·simp only [hr] at hC
     cases hq:lessB y.key x.key
     ·have hD:=Hdz (hF.out (by rw [hE.out,hr,hq];rfl))
      clear hr hS hF hE
      go_wp2
      obtain ⟨p0,p2,p1,p3⟩:=BoxI.c bx0
      refine wRz ?_
      refine rZz 0 λ K hK=>?_;go_simp;apply hK;clear hK K
      refine rZz 1 λ K hK=>?_;go_simp
      (go_at_call 266;go_must (refine (hC _).mono ?_);rintro e w1 ⟨rfl,hb1⟩;have bx1:=Blk.below' (Blk.drew bx0) hb1;obtain ⟨r0,_⟩:=BoxI.c bx1;have hz1:=hb1.size;simp at hz1;have j1:w1.cell? ⟨blk,off+j*4,none⟩=some (strV y.key):=(hb1.cell (p:=⟨blk,off+j*4,none⟩) (by simp;omega)).trans ((World.cell?_alloc_past _ _ _ (by omega)).trans j0))
      go_simp
      apply hK
      clear hK K
      refine rZz 2 λ K hK=>?_;go_simp;apply hK;clear hK K
      refine rZz 3 λ K hK=>?_;go_simp;apply hK;clear hK K
      refine rZz 4 λ K hK=>?_;go_simp;apply hK;clear hK K
      refine rZz 5 λ K hK=>?_;go_simp;apply hK;clear hK K
      refine rZz 6 λ K hK=>?_;go_simp;apply hK;clear hK K
      try simp only [lAz]
      refine tA 7 ?_;try simp only [lAz]
      refine tA 8 ?_;try simp only [lAz]
      refine tA 9 ?_;try simp only [lAz]
      refine tA 10 ?_;try simp only [lAz]
      refine tA 11 ?_;try simp only [lAz]
      refine tA 13 ?_;try simp only [lAz]
      refine wpAny_ready (rs:=[12,14]) (by kernel_rfl) (by simp) (aCz (λ K hK=>?_) (aCz (λ K hK=>?_) AllReady.nil))
      ·go_simp
       apply hK
       clear hK K
       refine rZz 14 λ K hK=>?_;go_simp;apply hK;clear hK K
       refine rZz 15 λ K hK=>?_;go_simp;apply hK;clear hK K
       refine rZz 16 λ K hK=>?_;go_simp;apply hK;clear hK K
       refine rZz 17 λ K hK=>?_;go_simp;apply hK;clear hK K
       refine wDz ?_
       go_wp2
       go_ret
       exact ⟨(ret_b hD.out).symm,((hb.alloc hz _).drew.trans (hb1.mono (by simp;omega)))⟩
      ·go_simp
       apply hK
       clear hK K
       refine rZz 12 λ K hK=>?_;go_simp;apply hK;clear hK K
       refine rZz 15 λ K hK=>?_;go_simp;apply hK;clear hK K
       refine rZz 16 λ K hK=>?_;go_simp;apply hK;clear hK K
       refine rZz 17 λ K hK=>?_;go_simp;apply hK;clear hK K
       refine wDz ?_
       go_wp2
       go_ret
       exact ⟨(ret_b hD.out).symm,((hb.alloc hz _).drew.trans (hb1.mono (by simp;omega)))⟩
     ·have hD:=Hdz (hS.out.trans (by rw [hE.out,hr,hq]<;>rfl))
      clear hr hS hF hE
      go_wp2
      obtain ⟨p0,p2,p1,p3⟩:=BoxI.c bx0
      refine wRz ?_
      refine rZz 0 λ K hK=>?_;go_simp;apply hK;clear hK K
      refine rZz 1 λ K hK=>?_;go_simp
      (go_at_call 266;go_must (refine (hC _).mono ?_);rintro e w1 ⟨rfl,hb1⟩;have bx1:=Blk.below' (Blk.drew bx0) hb1;obtain ⟨r0,_⟩:=BoxI.c bx1;have hz1:=hb1.size;simp at hz1;have j1:w1.cell? ⟨blk,off+j*4,none⟩=some (strV y.key):=(hb1.cell (p:=⟨blk,off+j*4,none⟩) (by simp;omega)).trans ((World.cell?_alloc_past _ _ _ (by omega)).trans j0))
      go_simp
      apply hK
      clear hK K
      refine rZz 2 λ K hK=>?_;go_simp;apply hK;clear hK K
      refine rZz 3 λ K hK=>?_;go_simp;apply hK;clear hK K
      refine rZz 4 λ K hK=>?_;go_simp;apply hK;clear hK K
      refine rZz 5 λ K hK=>?_;go_simp;apply hK;clear hK K
      refine rZz 6 λ K hK=>?_;go_simp;apply hK;clear hK K
      try simp only [lAz]
      refine tA 7 ?_;try simp only [lAz]
      refine tA 8 ?_;try simp only [lAz]
      refine tA 9 ?_;try simp only [lAz]
      refine tA 10 ?_;try simp only [lAz]
      refine tA 11 ?_;try simp only [lAz]
      refine tA 13 ?_;try simp only [lAz]
      refine wpAny_ready (rs:=[12,14]) (by kernel_rfl) (by simp) (aCz (λ K hK=>?_) (aCz (λ K hK=>?_) AllReady.nil))
      ·go_simp
       apply hK
       clear hK K
       refine rZz 14 λ K hK=>?_;go_simp;apply hK;clear hK K
       refine rZz 15 λ K hK=>?_;go_simp;apply hK;clear hK K
       refine rZz 16 λ K hK=>?_;go_simp;apply hK;clear hK K
       refine rZz 17 λ K hK=>?_;go_simp;apply hK;clear hK K
       refine wDz ?_
       go_wp2
       go_roundw
       case rel=>exact ⟨j+1+1,by omega,by go_num,hD,((hb.alloc hz _).drew.trans (hb1.mono (by simp;omega)))⟩
       case measure=>simp [Go.RowKit.intOf];omega
      ·go_simp
       apply hK
       clear hK K
       refine rZz 12 λ K hK=>?_;go_simp;apply hK;clear hK K
       refine rZz 15 λ K hK=>?_;go_simp;apply hK;clear hK K
       refine rZz 16 λ K hK=>?_;go_simp;apply hK;clear hK K
       refine rZz 17 λ K hK=>?_;go_simp;apply hK;clear hK K
       refine wDz ?_
       go_wp2
       go_roundw
       case rel=>exact ⟨j+1+1,by omega,by go_num,hD,((hb.alloc hz _).drew.trans (hb1.mono (by simp;omega)))⟩
       case measure=>simp [Go.RowKit.intOf];omega
  ·have hkn:k=n:=by omega
   subst hkn
   have hr:=Hdz ((congrArg riseI (List.take_of_length_le (show l.length<=k by omega))).symm.trans hR.out)
   clear hv hl1
   go_wp2
   go_ret
   exact ⟨(ret_b hr.out).symm,hb⟩
structure ItemsOk (l:List Item):Prop where
 keys:KeysOk l
 nums:∀ x∈l,I64 x.over/\I64 x.size
 len:(layI l).length<=100000
 few:l.length<=100000
theorem Sl.len4 {w:World} {A:Option Addr} {n c:Nat} {l:List Item} (h:Sl w 4 (.slice A n c) n (itemsCs l)):l.length=n:=by
 obtain ⟨_,_,e,_,h1,_⟩:=h
 rw [itemsCs_len] at h1
 omega
def PutPost (l:List Item) (w:World) (e:Ending) (w':World):Prop:=e=.returned (.tuple #[strV (putI l).1,.int .i64 (putI l).2])/\Below w.heap.size w w'
theorem putI_any (A:Option Addr) (n c:Nat) (l:List Item) (w:World) (hv:Sl w 4 (.slice A n c) n (itemsCs l)) (ho:ItemsOk l) :
  Calls Tryz.prog 198 #[.slice A n c] w (PutPost l w):=by
 have hn:n<=100000:=by have:=hv.len4;have:=ho.few;omega
 have hR:=λ W (h:Sl W 4 (.slice A n c) n (itemsCs l))=>rise_any A n c l W h hn ho.keys
 have hLn:=ho.len
 cases hr:riseI l
 ·have hp:=Hdz (show putI l=([],1) by unfold putI;rw [if_pos hr])
  simp only [hr] at hR
  have HR:=Hdz hR
  clear hR hr hLn
  go_enter Tryz.func198,Tryz.ntmps198
  go_wp2_with (go_at_call 234;go_must (refine (HR.out _ hv).mono ?_);rintro e w1 ⟨rfl,hb1⟩)
  go_ret2
  exact ⟨by rw [hp.out]<;>rfl,hb1⟩
 ·simp only [hr] at hR
  have HR:=Hdz hR
  have hL:=Hdz (λ W (h:Sl W 4 (.slice A n c) n (itemsCs l))=>lay_any A n c l W h ho.len hn ho.nums)
  by_cases h240:240<(layI l).length
  ·have hp:=Hdz (show putI l=([],2) by unfold putI;rw [if_neg (by simp [hr]),if_pos h240])
   have h240':(240:Int)<((layI l).length:Int):=by omega
   clear hR hr h240
   go_enter Tryz.func198,Tryz.ntmps198
   go_wp2_with (first
    | (go_at_call 234;go_must (refine (HR.out _ hv).mono ?_);rintro e w1 ⟨rfl,hb1⟩)
    | (go_at_call 235;go_must (refine (hL.out _ (hv.below hb1)).mono ?_);rintro e w2 ⟨rfl,hb2⟩))
   go_ret2
   exact ⟨by rw [hp.out]<;>rfl,hb1.trans (hb2.mono hb1.size)⟩
  ·have hp:=Hdz (show putI l=(layI l,0) by unfold putI;rw [if_neg (by simp [hr]),if_neg h240])
   have h240':¬ (240:Int)<((layI l).length:Int):=by omega
   clear hR hr h240
   go_enter Tryz.func198,Tryz.ntmps198
   go_wp2_with (first
    | (go_at_call 234;go_must (refine (HR.out _ hv).mono ?_);rintro e w1 ⟨rfl,hb1⟩)
    | (go_at_call 235;go_must (refine (hL.out _ (hv.below hb1)).mono ?_);rintro e w2 ⟨rfl,hb2⟩))
   go_ret2
   exact ⟨by rw [hp.out]<;>rfl,hb1.trans (hb2.mono hb1.size)⟩
theorem sizeI_any (A:Option Addr) (n c:Nat) (l:List Item) (w:World) (hv:Sl w 4 (.slice A n c) n (itemsCs l)) (ho:ItemsOk l) :
  Calls Tryz.prog 236 #[.slice A n c] w λ e w'=>e=.returned (.int .i64 (layI l).length)/\Below w.heap.size w w':=by
 have hn:n<=100000:=by have:=hv.len4;have:=ho.few;omega
 have hL:=Hdz (lay_any A n c l w hv ho.len hn ho.nums)
 have hLn:=ho.len
 go_enter Tryz.func236,Tryz.ntmps236
 go_wp2_with (go_at_call 235;go_must (refine hL.out.mono ?_);rintro e w2 ⟨rfl,hb2⟩)
 go_ret
 exact ⟨rfl,hb2⟩
end Go.Ev
