/-
  Texts of this claim.
-/
import Derived.Test.YtmfoiaaehkandaaGreatDoorMOGvAny2
import Derived.Test.YtmfoiaaehkandaaGreatDoorMOGvFind
import Derived.Test.YtmfoiaaehkandaaGreatDoorMOGwBuild
import Derived.Test.YtmfoiaaehkandaaGreatDoorMOGwReader
import Derived.Deep.LoopGhost
import Derived.WalkLawsBesides
set_option linter.unusedVariables false
set_option linter.unusedSimpArgs false
set_option maxHeartbeats 4000000
set_option maxRecDepth 100000
namespace Go.Ev
open Go.Proofs Go.RowKit
theorem textsB_append:∀ a b:List Bytes,textsB (a++b)=textsB a++textsB b
 | [],_=>rfl
 | x :: a,b=>by simp [textsB,textsB_append a b]
theorem textsB_take {l:List Bytes} {k:Nat} (h:k<l.length):textsB (l.take (k+1))=textsB (l.take k)++textB l[k]:=by
 rw [List.take_succ_eq_append_getElem h,textsB_append]
 simp [textsB]
theorem textsB_le (l:List Bytes) (k:Nat):(textsB (l.take k)).length<=(textsB l).length:=by
 have:textsB l=textsB (l.take k)++textsB (l.drop k):=by rw [<- textsB_append,List.take_append_drop]
 rw [this,List.length_append]
 omega
theorem var1 (x:Int) (T:TypeId) (w:World) (hx:I64 x) :
  Calls Tryz.prog 84 #[.slice (some ⟨w.heap.size,0,none⟩) 1 1] (w.alloc (.cells #[.int .i64 x] T)) λ e w'=>e=.returned (strV (varB x))/\Below (w.alloc (.cells #[.int .i64 x] T)).heap.size (w.alloc (.cells #[.int .i64 x] T)) w':=by
 refine (vars_any _ 1 1 [x] _ ⟨_,_,rfl,Nat.le_refl _,by simp,λ _=>⟨w.heap.size,0,rfl,by simp,λ j u hu=>?_⟩⟩ (by simpa using hx) (by omega)).mono ?_
 ·cases j with
  | zero=>cases hu;exact World.cell?_alloc_at _ _ _ _ rfl
  | succ j=>simp at hu
 ·rintro e w' ⟨rfl,hb⟩
  exact ⟨by simp [varsB,strV],hb⟩
theorem texts_any (A:Option Addr) (n c:Nat) (l:List Bytes) (w:World) (hv:Sl w 1 (.slice A n c) n (l.map strV)) (hL:(textsB l).length<=100000) (hn:n<=100000) :
  Calls Tryz.prog 93 #[.slice A n c] w λ e w'=>e=.returned (strV (textsB l))/\Below w.heap.size w w':=by
 have hl1:l.length=n:=by obtain ⟨_,_,e,_,h1,_⟩:=hv;simpa using h1
 go_enter Tryz.func93,Tryz.ntmps93
 go_wp2
 go_loopw [8] (λ i wr=>∃ (k:Nat) (F:Option Nat),k<=n/\i=.int .i64 (k:Int)/\Bd wr w.heap.size w.heap.size F (textsB (l.take k))/\Below w.heap.size w wr) (λ i _=>n-(Go.RowKit.intOf i).toNat)
 case atStart=>exact ⟨0,none,by omega,rfl,Bd.new w,(Below.refl _ _).alloc (Nat.le_refl _) _⟩
 case round =>
  obtain ⟨k,F,hk,rfl,hB,hb⟩:=hrel
  have hT:=textsB_le l k
  have hz:=hb.size
  by_cases hlt:k<n
  ·obtain ⟨A',c',e0,h0,h1,h2⟩:=hv
   cases e0
   obtain ⟨blk,off,rfl,hbl,hcell⟩:=h2 (by omega)
   have hk':k<l.length:=by omega
   have hc:wr.cell? ⟨blk,off+k,none⟩=some (strV l[k]):=(hb.cell (p:=⟨blk,off+k,none⟩) hbl).trans (hcell k _ (by simp [hk']))
   have hS:Hid (textsB (l.take (k+1))=textsB (l.take k)++(varB l[k].length++l[k])):=textsB_take hk'
   have hT1:=textsB_le l (k+1)
   have hT2:(textsB (l.take k)).length+((varB l[k].length).length+l[k].length)<=100000:=by
    have:=congrArg List.length hS.out
    simp only [List.length_append] at this
    omega
   clear hcell h2 h1 hl1 hT1
   generalize l[k]=s at *
   unfold strV at hc
   have hsl:s.length<=100000:=by omega
   go_wp2_with (first
    | (go_at_call 84;refine (var1 _ _ _ ⟨by omega,by omega⟩).mono ?_;rintro e w1 ⟨rfl,hb1⟩;have hB1:=(hB.alloc _).below hb1;have hz1:=hb1.size;rw [World.size_alloc] at hz1)
    | (go_at_call 92;go_must (refine (bw_string (hB1) _ (by simp;omega) (by omega)).mono ?_);rintro e w2 ⟨rfl,⟨F2,hB2⟩,K2⟩))
   go_roundw
   case rel=>exact ⟨k+1,F2,by omega,by go_num,by rw [hS.out];exact hB2,hb.trans (((Below.refl _ _).alloc hz _).trans ((hb1.mono (by rw [World.size_alloc];omega)).trans (hB1.below_of K2 (by omega))))⟩
   case measure=>simp [Go.RowKit.intOf];omega
  ·have hkn:k=n:=by omega
   subst hkn
   have ht:l.take k=l:=List.take_of_length_le (by omega)
   rw [ht] at hB
   clear hv ht hl1
   go_wp2_with (go_at_call 94;refine (bw_text hB).mono ?_;rintro e w1 ⟨rfl,hb1⟩)
   go_ret
   exact ⟨rfl,hb.trans hb1⟩
def itemCs (x:Item):List Value:=[strV x.key,strV x.val,.int .i64 x.over,.int .i64 x.size]
def itemsCs:List Item->List Value
 | []=>[]
 | x :: l=>itemCs x++itemsCs l
theorem itemsCs_len:∀ l:List Item,(itemsCs l).length=l.length*4
 | []=>rfl
 | x :: l=>by
  simp only [itemsCs,List.length_append,itemsCs_len l,List.length_cons]
  show 4+_=_
  omega
theorem itemsCs_at:∀ (l:List Item) (k j:Nat) (hk:k<l.length),j<4->(itemsCs l)[k*4+j]? = (itemCs l[k])[j]?
 | x :: l,0,j,hk,hj=>by
  simp only [itemsCs,Nat.zero_mul,Nat.zero_add,List.getElem_cons_zero]
  rw [List.getElem?_append_left (by show j<4;omega)]
 | x :: l,k+1,j,hk,hj=>by
  simp only [itemsCs,List.getElem_cons_succ]
  rw [List.getElem?_append_right (by show 4<=_;omega)]
  have e:(k+1)*4+j-(itemCs x).length=k*4+j:=by show (k+1)*4+j-4=_;omega
  rw [e]
  exact itemsCs_at l k j (by simpa using hk) hj
theorem load_cells {w:World} {t:TypeId} {b o:Nat} (vs:List Value) (hB:rowB0 Tryz.prog t vs.length=true) (h:∀ j u,vs[j]? = some u->w.cell? ⟨b,o+j,none⟩=some u) :
  (Instr.loadAt t (.pointer (some ⟨b,o,none⟩))).run Tryz.prog w=.ok (.agg vs.toArray) w:=by
 unfold rowB0 at hB
 simp only [Bool.and_eq_true,beq_iff_eq] at hB
 obtain ⟨h1,h2⟩:=hB
 split at h1
 ·rename_i d hd
  exact run_loadAt_mid w b o t vs d h hd h1 h2
 ·cases h1
theorem item_cells {w:World} {blk off n:Nat} {l:List Item} (hcell:∀ j u,(itemsCs l)[j]? = some u->w.cell? ⟨blk,off+j,none⟩=some u) {k:Nat} (hk:k<l.length):∀ j u,(itemCs l[k])[j]? = some u->w.cell? ⟨blk,off+k*4+j,none⟩=some u:=by
 intro j u hu
 have hj:j<4:=(List.getElem?_eq_some_iff.1 hu).1
 rw [Nat.add_assoc]
 exact hcell _ _ ((itemsCs_at l k j hk hj).trans hu)
theorem bool_lay (b:Bool) (w:World):Calls Tryz.prog 267 #[.bool b] w λ e w'=>e=.returned (strV (boolB b))/\w'=w:=by
 cases b
 ·go_enter Tryz.func267,Tryz.ntmps267
  go_wp2
  go_ret
  exact ⟨rfl,rfl⟩
 ·go_enter Tryz.func267,Tryz.ntmps267
  go_wp2
  go_ret
  exact ⟨rfl,rfl⟩
theorem layI_take {l:List Item} {k:Nat} (h:k<l.length):layI (l.take (k+1))=layI (l.take k)++l[k].lay:=by
 rw [List.take_succ_eq_append_getElem h,layI_append]
 simp [layI]
theorem layI_le (l:List Item) (k:Nat):(layI (l.take k)).length<=(layI l).length:=by
 have:layI l=layI (l.take k)++layI (l.drop k):=by rw [<- layI_append,List.take_append_drop]
 rw [this,List.length_append]
 omega
theorem text_at (g:Nat) (s:Bytes) (W:World) (hg:g<W.heap.size) (hc:W.cell? ⟨g,0,none⟩=some (strV s)) (hs:(textB s).length<=100000) :
  Calls Tryz.prog 93 #[.slice (some ⟨g,0,none⟩) 1 1] W λ e w'=>e=.returned (strV (textB s))/\Below W.heap.size W w':=by
 refine (texts_any _ 1 1 [s] _ ⟨_,_,rfl,Nat.le_refl _,by simp,λ _=>⟨g,0,rfl,hg,λ j u hu=>?_⟩⟩ (by simpa [textsB] using hs) (by omega)).mono ?_
 ·cases j with
  | zero=>cases hu;exact hc
  | succ j=>simp at hu
 ·rintro e w' ⟨rfl,hb⟩
  exact ⟨by simp [textsB],hb⟩
theorem var2_at (g:Nat) (x y:Int) (W:World) (hg:g<W.heap.size) (hc:W.cell? ⟨g,0,none⟩=some (.int .i64 x)) (hd:W.cell? ⟨g,1,none⟩=some (.int .i64 y)) (hx:I64 x) (hy:I64 y) :
  Calls Tryz.prog 84 #[.slice (some ⟨g,0,none⟩) 2 2] W λ e w'=>e=.returned (strV (varB x++varB y))/\Below W.heap.size W w':=by
 refine (vars_any _ 2 2 [x,y] _ ⟨_,_,rfl,Nat.le_refl _,by simp,λ _=>⟨g,0,rfl,hg,λ j u hu=>?_⟩⟩ (by simp [hx,hy]) (by omega)).mono ?_
 ·match j with
  | 0=>cases hu;exact hc
  | 1=>cases hu;exact hd
  | j+2=>simp at hu
 ·rintro e w' ⟨rfl,hb⟩
  exact ⟨by simp [varsB],hb⟩
theorem lay_in {x:Item} (h:(x.over != 0)=false):x.lay=textB x.key++boolB false++textB x.val:=by
 have ho:x.over=0:=by simpa using h
 simp [Item.lay,ho]
theorem lay_out {x:Item} (h:(x.over != 0)=true):x.lay=textB x.key++boolB true++(varB x.over++varB x.size):=by
 have ho:¬ x.over=0:=by simpa using h
 unfold Item.lay
 rw [h,if_pos ho]
def BoxI (w:World) (g:Nat) (x:Item):Prop:=Blk w g 223 #[strV x.key,strV x.val,.int .i64 x.over,.int .i64 x.size]
theorem BoxI.c {w:World} {g:Nat} {x:Item} (h:BoxI w g x):w.cell? ⟨g,0,none⟩=some (strV x.key)/\w.cell? ⟨g,2,none⟩=some (.int .i64 x.over)/\w.cell? ⟨g,1,none⟩=some (strV x.val)/\w.cell? ⟨g,3,none⟩=some (.int .i64 x.size):=
 ⟨Blk.cell h 0,Blk.cell h 2,Blk.cell h 1,Blk.cell h 3⟩
theorem lay_any (A:Option Addr) (n c:Nat) (l:List Item) (w:World) (hv:Sl w 4 (.slice A n c) n (itemsCs l)) (hL:(layI l).length<=100000) (hn:n<=100000) (hI:∀ x∈l,I64 x.over/\I64 x.size) :
  Calls Tryz.prog 235 #[.slice A n c] w λ e w'=>e=.returned (strV (layI l))/\Below w.heap.size w w':=by
 have hl1:l.length=n:=by obtain ⟨_,_,e,_,h1,_⟩:=hv;rw [itemsCs_len] at h1;omega
 go_enter Tryz.func235,Tryz.ntmps235
 go_wp2
 go_loopw [8] (λ i wr=>∃ (k:Nat) (F:Option Nat),k<=n/\i=.int .i64 (k:Int)/\Bd wr w.heap.size w.heap.size F (layI (l.take k))/\Below w.heap.size w wr) (λ i _=>n-(Go.RowKit.intOf i).toNat)
 case atStart=>exact ⟨0,none,by omega,rfl,Bd.new w,(Below.refl _ _).alloc (Nat.le_refl _) _⟩
 case round =>
  obtain ⟨k,F,hk,rfl,hB,hb⟩:=hrel
  have hT:=layI_le l k
  have hz:=hb.size
  by_cases hlt:k<n
  ·obtain ⟨A',c',e0,h0,h1,h2⟩:=hv
   cases e0
   obtain ⟨blk,off,rfl,hbl,hcell⟩:=h2 (by omega)
   have hk':k<l.length:=by omega
   have hi:=item_cells (n:=n) hcell hk'
   have i0:wr.cell? ⟨blk,off+k*4,none⟩=some (strV l[k].key):=(hb.cell (p:=⟨blk,off+k*4,none⟩) hbl).trans (hi 0 _ rfl)
   have i1:wr.cell? ⟨blk,off+k*4+1,none⟩=some (strV l[k].val):=(hb.cell (p:=⟨blk,off+k*4+1,none⟩) hbl).trans (hi 1 _ rfl)
   have i2:wr.cell? ⟨blk,off+k*4+2,none⟩=some (.int .i64 l[k].over):=(hb.cell (p:=⟨blk,off+k*4+2,none⟩) hbl).trans (hi 2 _ rfl)
   have i3:wr.cell? ⟨blk,off+k*4+3,none⟩=some (.int .i64 l[k].size):=(hb.cell (p:=⟨blk,off+k*4+3,none⟩) hbl).trans (hi 3 _ rfl)
   have hS:Hid (layI (l.take (k+1))=layI (l.take k)++l[k].lay):=layI_take hk'
   have hT1:=layI_le l (k+1)
   obtain ⟨hI1,hI2⟩:=hI l[k] (List.getElem_mem hk')
   have hT2:(layI (l.take k)).length+(l[k].lay).length<=100000:=by
    have:=congrArg List.length hS.out
    simp only [List.length_append] at this
    omega
   clear hi hcell h2 h1 hl1 hT1 hI
   generalize l[k]=x at *
   have hx0:(textB x.key).length<=100000:=by
    simp only [Item.lay,List.length_append] at hT2
    omega
   have bx0:BoxI (wr.alloc (.cells #[strV x.key,strV x.val,.int .i64 x.over,.int .i64 x.size] 223)) wr.heap.size x:=Blk.new _ _ _
   have hgb:wr.heap.size≠w.heap.size:=by have:=hB.lt;omega
   cases hq:(x.over != 0)
   ·have ho:x.over=0:=by simpa using hq
    have hx1:(layI (l.take k)).length+((textB x.key).length+(boolB false).length+(textB x.val).length)<=100000:=by
     simp only [Item.lay,ho,List.length_append] at hT2
     simpa using hT2
    have hx2:(textB x.val).length<=100000:=by omega
    clear ho
    go_wp2
    obtain ⟨p0,p2,p1,p3⟩:=BoxI.c bx0
    go_region_with (first
     | (go_at_call 93;go_must (refine (text_at _ _ _ (by simp) (World.cell?_alloc_at _ _ _ 0 (by simp)) hx0).mono ?_);rintro e w1 ⟨rfl,hb1⟩;have hB1:=((hB.alloc _).alloc _).drew.below hb1;have bx1:=(Blk.alloc bx0 _).drew.below' hb1;have q1:=BoxI.c bx1)
     | (go_at_call 267;refine (bool_lay _ _).mono ?_;rintro e w1' ⟨rfl,rfl⟩)
     | (go_at_call 92;go_must (refine (bw_string hB1 _ (by simp;omega) (by have:=hb1.size;simp at this;omega)).mono ?_);rintro e w2 ⟨rfl,⟨F2,hB2⟩,K2⟩;have bx2:=Blk.keeps bx1 K2 (hB1.not bx1 (by decide) hgb);have q2:=BoxI.c bx2;have z2:=K2.size;have z1:=hb1.size;simp at z1))
    all_goals go_wp2_with (first
     | (go_at_call 93;go_must (refine (text_at _ _ _ (by simp) (World.cell?_alloc_at _ _ _ 0 rfl) hx2).mono ?_);rintro e w3 ⟨rfl,hb3⟩;have hB3:=(hB2.alloc _).below hb3;have bx3:=(Blk.alloc bx2 _).below' hb3)
     | (go_at_call 92;go_must (refine (bw_string hB3 _ (by simp;omega) (by have:=hb3.size;simp at this;omega)).mono ?_);rintro e w4 ⟨rfl,⟨F4,hB4⟩,K4⟩))
    all_goals
     go_roundw
     case rel =>
      refine ⟨k+1,F4,by omega,by go_num,?_,?_⟩
      ·rw [hS.out,lay_in hq]
       simpa [List.append_assoc] using hB4
      ·have z3:=hb3.size
       simp at z3
       exact ((((((hb.alloc hz _).alloc (by simp;omega) _).drew.trans (hb1.mono (by simp;omega))).trans (hB1.below_of K2 (by omega))).alloc (by omega) _).trans (hb3.mono (by simp;omega))).trans (hB3.below_of K4 (by omega))
     case measure=>simp [Go.RowKit.intOf];omega
   ·have hx1:(layI (l.take k)).length+((textB x.key).length+(boolB true).length+((varB x.over).length+(varB x.size).length))<=100000:=by
     rw [lay_out hq] at hT2
     simp only [List.length_append] at hT2
     omega
    go_wp2
    obtain ⟨p0,p2,p1,p3⟩:=BoxI.c bx0
    go_region_with (first
     | (go_at_call 93;go_must (refine (text_at _ _ _ (by simp) (World.cell?_alloc_at _ _ _ 0 (by simp)) hx0).mono ?_);rintro e w1 ⟨rfl,hb1⟩;have hB1:=((hB.alloc _).alloc _).drew.below hb1;have bx1:=(Blk.alloc bx0 _).drew.below' hb1;have q1:=BoxI.c bx1)
     | (go_at_call 267;refine (bool_lay _ _).mono ?_;rintro e w1' ⟨rfl,rfl⟩)
     | (go_at_call 92;go_must (refine (bw_string hB1 _ (by simp;omega) (by have:=hb1.size;simp at this;omega)).mono ?_);rintro e w2 ⟨rfl,⟨F2,hB2⟩,K2⟩;have bx2:=Blk.keeps bx1 K2 (hB1.not bx1 (by decide) hgb);have q2:=BoxI.c bx2;have z2:=K2.size;have z1:=hb1.size;simp at z1))
    all_goals go_wp2_with (first
     | (go_at_call 84;go_must (refine (var2_at _ _ _ _ (by simp) (World.cell?_alloc_at _ _ _ 0 rfl) (World.cell?_alloc_at _ _ _ 1 rfl) hI1 hI2).mono ?_);rintro e w3 ⟨rfl,hb3⟩;have hB3:=(hB2.alloc _).below hb3;have bx3:=(Blk.alloc bx2 _).below' hb3)
     | (go_at_call 92;go_must (refine (bw_string hB3 _ (by simp;omega) (by have:=hb3.size;simp at this;omega)).mono ?_);rintro e w4 ⟨rfl,⟨F4,hB4⟩,K4⟩))
    all_goals
     go_roundw
     case rel =>
      refine ⟨k+1,F4,by omega,by go_num,?_,?_⟩
      ·rw [hS.out,lay_out hq]
       simpa [List.append_assoc] using hB4
      ·have z3:=hb3.size
       simp at z3
       exact ((((((hb.alloc hz _).alloc (by simp;omega) _).drew.trans (hb1.mono (by simp;omega))).trans (hB1.below_of K2 (by omega))).alloc (by omega) _).trans (hb3.mono (by simp;omega))).trans (hB3.below_of K4 (by omega))
     case measure=>simp [Go.RowKit.intOf];omega
  ·have hkn:k=n:=by omega
   subst hkn
   have ht:l.take k=l:=List.take_of_length_le (by omega)
   rw [ht] at hB
   clear hv ht hl1
   go_wp2_with (go_at_call 94;refine (bw_text hB).mono ?_;rintro e w1 ⟨rfl,hb1⟩)
   go_ret
   exact ⟨rfl,hb.trans hb1⟩
theorem inLeaf_any (n a b:Int) (w:World):Calls Tryz.prog 289 #[.int .i64 n,.int .i64 a,.int .i64 b] w λ e w'=>e=.returned (.bool (inB n a b))/\w'=w:=by
 go_enter Tryz.func289,Tryz.ntmps289
 go_wp2
 ·rename_i h
  go_ret
  exact ⟨by simp [inB,h],rfl⟩
 ·rename_i h
  go_ret
  exact ⟨by simp [inB,show ¬ a<=n by omega],rfl⟩
theorem right_any (x:Item) (w:World) (hk:x.key.length<=9223372036854775807) (hv:x.val.length<=9223372036854775807) :
  Calls Tryz.prog 266 #[.agg #[strV x.key,strV x.val,.int .i64 x.over,.int .i64 x.size]] w λ e w'=>e=.returned (.bool x.right)/\Below w.heap.size w w':=by
 have hB:Below w.heap.size w (w.alloc (.cells #[strV x.key,strV x.val,.int .i64 x.over,.int .i64 x.size] 223)):=(Below.refl _ _).alloc (Nat.le_refl _) _
 cases h1:inB x.key.length 1 40
 ·have hr:=Hdz (show x.right=false by simp [Item.right,h1])
  go_enter Tryz.func266,Tryz.ntmps266
  go_wp2_with (go_at_call 289;refine (inLeaf_any _ _ _ _).mono ?_;rintro e w1 ⟨rfl,rfl⟩)
  go_ret
  exact ⟨(ret_b hr.out).symm,hB⟩
 ·by_cases h2:x.over=0
  ·have h2':(x.over==0)=true:=by simp [h2]
   cases h3:decide (x.size=0)
   ·have hr:=Hdz (show x.right=false by simp only [Item.right,h1,if_pos h2,h3];rfl)
    have h3':(x.size==0)=false:=by simpa using h3
    clear h2
    go_enter Tryz.func266,Tryz.ntmps266
    go_wp2_with (go_at_call 289;refine (inLeaf_any _ _ _ _).mono ?_;rintro e w1 ⟨rfl,rfl⟩)
    go_ret
    exact ⟨(ret_b hr.out).symm,hB⟩
   ·have hr:=Hdz (show x.right=decide (x.val.length<=60) by simp only [Item.right,h1,if_pos h2,h3];simp)
    have h3':(x.size==0)=true:=by simpa using h3
    clear h2
    go_enter Tryz.func266,Tryz.ntmps266
    go_wp2_with (go_at_call 289;refine (inLeaf_any _ _ _ _).mono ?_;rintro e w1 ⟨rfl,rfl⟩)
    go_ret
    exact ⟨(ret_b (hr.out.trans (by simp;omega))).symm,hB⟩
  ·have h2':(x.over==0)=false:=by simp [h2]
   have hr:=Hdz (show x.right=(inB x.over 1 4294967295 && inB x.size 61 2000 && x.val.isEmpty) by simp only [Item.right,h1,if_neg h2];simp)
   clear h2
   cases h3:inB x.over 1 4294967295
   ·go_enter Tryz.func266,Tryz.ntmps266
    go_wp2_with (go_at_call 289;refine (inLeaf_any _ _ _ _).mono ?_;rintro e w1 ⟨rfl,rfl⟩)
    go_ret
    exact ⟨(ret_b (hr.out.trans (by rw [h3];rfl))).symm,hB⟩
   ·cases h4:inB x.size 61 2000
    ·go_enter Tryz.func266,Tryz.ntmps266
     go_wp2_with (go_at_call 289;refine (inLeaf_any _ _ _ _).mono ?_;rintro e w1 ⟨rfl,rfl⟩)
     go_ret
     exact ⟨(ret_b (hr.out.trans (by rw [h3,h4];rfl))).symm,hB⟩
    ·go_enter Tryz.func266,Tryz.ntmps266
     go_wp2_with (go_at_call 289;refine (inLeaf_any _ _ _ _).mono ?_;rintro e w1 ⟨rfl,rfl⟩)
     all_goals (go_ret;exact ⟨(ret_b (hr.out.trans (by rw [h3,h4];simp))).symm,hB⟩)
end Go.Ev
namespace Go.Ev
theorem riseI_take {l:List Item} (h:riseI l=true) (k:Nat):riseI (l.take k)=true:=by
 have:riseI (l.take k++l.drop k)=true:=by rw [List.take_append_drop];exact h
 exact (riseI_append.1 this).1
def stepI (l:List Item) (k:Nat) (hk:k<l.length):Bool:=l[k].right && (decide (k=0) || lessB (l[k-1]'(by omega)).key l[k].key)
theorem riseI_max:∀ {l:List Item} {k:Nat} (hk:k<l.length),riseI l=true->∀ y∈l.take k,lessB y.key l[k].key=true:=by
 intro l k hk h y hy
 have hs:riseI (l.take k++l.drop k)=true:=by rw [List.take_append_drop];exact h
 obtain ⟨_,_,h3⟩:=riseI_append.1 hs
 exact h3 y hy l[k] (by rw [List.drop_eq_getElem_cons hk];exact List.mem_cons_self ..)
theorem riseI_step {l:List Item} {k:Nat} (hk:k<l.length) (h:riseI (l.take k)=true):riseI (l.take (k+1))=stepI l k hk:=by
 rw [List.take_succ_eq_append_getElem hk,Bool.eq_iff_iff]
 unfold stepI
 simp only [Bool.and_eq_true,Bool.or_eq_true,decide_eq_true_eq]
 constructor
 ·intro hr
  obtain ⟨_,h2,h3⟩:=riseI_append.1 hr
  refine ⟨h2,?_⟩
  by_cases h0:k=0
  ·exact .inl h0
  ·refine .inr (h3 _ ?_ _ (List.mem_singleton.2 rfl))
   rw [List.mem_take_iff_getElem]
   exact ⟨k-1,by omega,rfl⟩
 ·rintro ⟨h1,h2⟩
  refine riseI_append.2 ⟨h,h1,λ y hy z hz=>?_⟩
  rw [List.mem_singleton.1 hz]
  rcases h2 with rfl | h2
  ·simp at hy
  ·have hk1:k-1<(l.take k).length\/k=0:=by
    by_cases h0:k=0
    ·exact .inr h0
    ·left;rw [List.length_take];omega
   rcases hk1 with hk1 | rfl
   ·obtain ⟨j,hj,rfl⟩:=List.mem_take_iff_getElem.1 hy
    by_cases he:j=k-1
    ·subst he;exact h2
    ·have hm:=riseI_max hk1 h l[j] (by
      rw [List.mem_take_iff_getElem]
      exact ⟨j,by rw [List.length_take];omega,by simp⟩)
     have e:(l.take k)[k-1]=l[k-1]:=by simp
     rw [e] at hm
     exact lessB_trans hm h2
   ·simp at hy
theorem riseI_fail {l:List Item} {k:Nat} (hk:k<l.length) (h:riseI (l.take k)=true) (hs:stepI l k hk=false):riseI l=false:=by
 cases hr:riseI l
 ·rfl
 ·have:=riseI_take hr (k+1)
  rw [riseI_step hk h,hs] at this
  cases this
open Go.Proofs Go.RowKit
theorem item_4 {w:World} {blk o:Nat} {x:Item} (h:∀ j u,(itemCs x)[j]? = some u->w.cell? ⟨blk,o+j,none⟩=some u) :
  w.cell? ⟨blk,o,none⟩=some (strV x.key)/\w.cell? ⟨blk,o+1,none⟩=some (strV x.val)/\w.cell? ⟨blk,o+2,none⟩=some (.int .i64 x.over)/\w.cell? ⟨blk,o+3,none⟩=some (.int .i64 x.size):=
 ⟨h 0 _ rfl,h 1 _ rfl,h 2 _ rfl,h 3 _ rfl⟩
def KeysOk (l:List Item):Prop:=∀ x∈l,x.key.length<=9223372036854775807/\x.val.length<=9223372036854775807
theorem rise_any (A:Option Addr) (n c:Nat) (l:List Item) (w:World) (hv:Sl w 4 (.slice A n c) n (itemsCs l)) (hn:n<=100000) (hK:KeysOk l) :
  Calls Tryz.prog 234 #[.slice A n c] w λ e w'=>e=.returned (.bool (riseI l))/\Below w.heap.size w w':=by
 have hl1:l.length=n:=by obtain ⟨_,_,e,_,h1,_⟩:=hv;rw [itemsCs_len] at h1;omega
 go_enter Tryz.func234,Tryz.ntmps234
 go_wp2
 go_loopw [7] (λ i wr=>∃ (k:Nat),k<=n/\i=.int .i64 (k:Int)/\Hid (riseI (l.take k)=true)/\Below w.heap.size w wr) (λ i _=>n-(Go.RowKit.intOf i).toNat)
 case atStart=>exact ⟨0,by omega,rfl,rfl,Below.refl _ _⟩
 case round =>
  obtain ⟨k,hk,rfl,hR,hb⟩:=hrel
  have hz:=hb.size
  by_cases hlt:k<n
  ·obtain ⟨A',c',e0,h0,h1,h2⟩:=hv
   cases e0
   obtain ⟨blk,off,rfl,hbl,hcell⟩:=h2 (by omega)
   have hk':k<l.length:=by omega
   obtain ⟨i0,i1,i2,i3⟩:=item_4 (w:=wr) λ j u hu=>(hb.cell (p:=⟨blk,off+k*4+j,none⟩) hbl).trans (item_cells (n:=n) hcell hk' j u hu)
   obtain ⟨hx1,hx2⟩:=hK l[k] (List.getElem_mem hk')
   have hS:=Hdz (riseI_step hk' hR.out)
   have hF:=Hdz (riseI_fail hk' hR.out)
   cases k with
   | zero =>
    have hE:Hid (stepI l 0 hk'=l[0].right):=by show _=_;simp [stepI]
    simp only [Nat.zero_mul,Nat.add_zero] at i0 i1 i2 i3
    generalize l[0]=x at *
    clear hcell h2 h1 hK
    have bx0:BoxI (wr.alloc (.cells #[strV x.key,strV x.val,.int .i64 x.over,.int .i64 x.size] 223)) wr.heap.size x:=Blk.new _ _ _
    have hC:=λ W=>right_any x W hx1 hx2
    cases hr:x.right
    ·simp only [hr] at hC
     have hD:=Hdz (hF.out (hE.out.trans hr))
     clear hr hS hF hE
     go_wp2
     obtain ⟨p0,p2,p1,p3⟩:=BoxI.c bx0
     refine wRz ?_
     refine rZz 0 λ K hK=>?_;go_simp;apply hK;clear hK K
     refine rZz 1 λ K hK=>?_;go_simp
     (go_at_call 266;go_must (refine (hC _).mono ?_);rintro e w1 ⟨rfl,hb1⟩)
     go_simp
     apply hK
     clear hK K
     refine rZz 2 λ K hK=>?_;go_simp;apply hK;clear hK K
     refine rZz 3 λ K hK=>?_;go_simp;apply hK;clear hK K
     try simp only [lAz]
     refine sA 4 ?_;try simp only [lAz]
     refine sA 5 ?_;try simp only [lAz]
     refine sA 6 ?_;try simp only [lAz]
     refine sA 7 ?_;try simp only [lAz]
     refine sA 8 ?_;try simp only [lAz]
     refine sA 9 ?_;try simp only [lAz]
     refine sA 10 ?_;try simp only [lAz]
     refine sA 11 ?_;try simp only [lAz]
     refine sA 12 ?_;try simp only [lAz]
     refine sA 13 ?_;try simp only [lAz]
     refine sA 14 ?_;try simp only [lAz]
     refine sA 15 ?_;try simp only [lAz]
     refine sA 16 ?_;try simp only [lAz]
     refine rZz 17 λ K hK=>?_;go_simp;apply hK;clear hK K
     refine wDz ?_
     go_wp2
     go_ret
     exact ⟨(ret_b hD.out).symm,((hb.alloc hz _).drew.trans (hb1.mono (by simp;omega)))⟩
    ·simp only [hr] at hC
     have hD:=Hdz (hS.out.trans (hE.out.trans hr))
     clear hr hS hF hE
     go_wp2
     obtain ⟨p0,p2,p1,p3⟩:=BoxI.c bx0
     refine wRz ?_
     refine rZz 0 λ K hK=>?_;go_simp;apply hK;clear hK K
     refine rZz 1 λ K hK=>?_;go_simp
     (go_at_call 266;go_must (refine (hC _).mono ?_);rintro e w1 ⟨rfl,hb1⟩)
     go_simp
     apply hK
     clear hK K
     refine rZz 2 λ K hK=>?_;go_simp;apply hK;clear hK K
     refine rZz 3 λ K hK=>?_;go_simp;apply hK;clear hK K
     refine rZz 4 λ K hK=>?_;go_simp;apply hK;clear hK K
     refine rZz 5 λ K hK=>?_;go_simp;apply hK;clear hK K
     refine rZz 6 λ K hK=>?_;go_simp;apply hK;clear hK K
     try simp only [lAz]
     refine sA 7 ?_;try simp only [lAz]
     refine sA 8 ?_;try simp only [lAz]
     refine sA 9 ?_;try simp only [lAz]
     refine sA 10 ?_;try simp only [lAz]
     refine sA 11 ?_;try simp only [lAz]
     refine sA 12 ?_;try simp only [lAz]
     refine sA 13 ?_;try simp only [lAz]
     refine sA 14 ?_;try simp only [lAz]
     refine sA 15 ?_;try simp only [lAz]
     refine rZz 16 λ K hK=>?_;go_simp;apply hK;clear hK K
     refine rZz 17 λ K hK=>?_;go_simp;apply hK;clear hK K
     refine wDz ?_
     go_wp2
     go_roundw
     case rel=>exact ⟨1,by omega,by go_num,hD,((hb.alloc hz _).drew.trans (hb1.mono (by simp;omega)))⟩
     case measure=>simp [Go.RowKit.intOf];omega
   | succ j =>
    have hE:Hid (stepI l (j+1) hk'=(l[j+1].right && lessB l[j].key l[j+1].key)):=by show _=_;simp [stepI]
    have hj:j<l.length:=by omega
    obtain ⟨j0,_⟩:=item_4 (w:=wr) λ i u hu=>(hb.cell (p:=⟨blk,off+j*4+i,none⟩) hbl).trans (item_cells (n:=n) hcell hj i u hu)
    have hlj:(0:Int)<=(j:Int)/\(j:Int)<(n:Int):=by omega
    obtain ⟨hlj1,hlj2⟩:=hlj
    have hw:IntKind.i64.wrap (j:Int)=(j:Int):=IntWalk.i64_in _ (by omega)
    generalize l[j+1]=x at *
    generalize l[j]=y at *
    clear hcell h2 h1 hK
    have bx0:BoxI (wr.alloc (.cells #[strV x.key,strV x.val,.int .i64 x.over,.int .i64 x.size] 223)) wr.heap.size x:=Blk.new _ _ _
    have hC:=λ W=>right_any x W hx1 hx2
    cases hr:x.right
    ·simp only [hr] at hC
     have hD:=Hdz (hF.out (by rw [hE.out,hr];rfl))
     clear hr hS hF hE
     go_wp2
     obtain ⟨p0,p2,p1,p3⟩:=BoxI.c bx0
     refine wRz ?_
     refine rZz 0 λ K hK=>?_;go_simp;apply hK;clear hK K
     refine rZz 1 λ K hK=>?_;go_simp
     (go_at_call 266;go_must (refine (hC _).mono ?_);rintro e w1 ⟨rfl,hb1⟩)
     go_simp
     apply hK
     clear hK K
     refine rZz 2 λ K hK=>?_;go_simp;apply hK;clear hK K
     refine rZz 3 λ K hK=>?_;go_simp;apply hK;clear hK K
     try simp only [lAz]
     refine sA 4 ?_;try simp only [lAz]
     refine sA 5 ?_;try simp only [lAz]
     refine sA 6 ?_;try simp only [lAz]
     refine sA 7 ?_;try simp only [lAz]
     refine sA 8 ?_;try simp only [lAz]
     refine sA 9 ?_;try simp only [lAz]
     refine sA 10 ?_;try simp only [lAz]
     refine sA 11 ?_;try simp only [lAz]
     refine sA 12 ?_;try simp only [lAz]
     refine sA 13 ?_;try simp only [lAz]
     refine sA 14 ?_;try simp only [lAz]
     refine sA 15 ?_;try simp only [lAz]
     refine sA 16 ?_;try simp only [lAz]
     refine rZz 17 λ K hK=>?_;go_simp;apply hK;clear hK K
     refine wDz ?_
     go_wp2
     go_ret
     exact ⟨(ret_b hD.out).symm,((hb.alloc hz _).drew.trans (hb1.mono (by simp;omega)))⟩
    ·simp only [hr] at hC
     cases hq:lessB y.key x.key
     ·have hD:=Hdz (hF.out (by rw [hE.out,hr,hq];rfl))
      clear hr hS hF hE
      go_wp2
      obtain ⟨p0,p2,p1,p3⟩:=BoxI.c bx0
      refine wRz ?_
      refine rZz 0 λ K hK=>?_;go_simp;apply hK;clear hK K
      refine rZz 1 λ K hK=>?_;go_simp
      (go_at_call 266;go_must (refine (hC _).mono ?_);rintro e w1 ⟨rfl,hb1⟩;have bx1:=Blk.below' (Blk.drew bx0) hb1;obtain ⟨r0,_⟩:=BoxI.c bx1;have hz1:=hb1.size;simp at hz1;have j1:w1.cell? ⟨blk,off+j*4,none⟩=some (strV y.key):=(hb1.cell (p:=⟨blk,off+j*4,none⟩) (by simp;omega)).trans ((World.cell?_alloc_past _ _ _ (by omega)).trans j0))
      go_simp
      apply hK
      clear hK K
      refine rZz 2 λ K hK=>?_;go_simp;apply hK;clear hK K
      refine rZz 3 λ K hK=>?_;go_simp;apply hK;clear hK K
      refine rZz 4 λ K hK=>?_;go_simp;apply hK;clear hK K
      refine rZz 5 λ K hK=>?_;go_simp;apply hK;clear hK K
      refine rZz 6 λ K hK=>?_;go_simp;apply hK;clear hK K
      try simp only [lAz]
      refine tA 7 ?_;try simp only [lAz]
      refine tA 8 ?_;try simp only [lAz]
      refine tA 9 ?_;try simp only [lAz]
      refine tA 10 ?_;try simp only [lAz]
      refine tA 11 ?_;try simp only [lAz]
      refine tA 13 ?_;try simp only [lAz]
      refine wpAny_ready (rs:=[12,14]) (by kernel_rfl) (by simp) (aCz (λ K hK=>?_) (aCz (λ K hK=>?_) AllReady.nil))
      ·go_simp
       apply hK
       clear hK K
       refine rZz 14 λ K hK=>?_;go_simp;apply hK;clear hK K
       refine rZz 15 λ K hK=>?_;go_simp;apply hK;clear hK K
       refine rZz 16 λ K hK=>?_;go_simp;apply hK;clear hK K
       refine rZz 17 λ K hK=>?_;go_simp;apply hK;clear hK K
       refine wDz ?_
       go_wp2
       go_ret
       exact ⟨(ret_b hD.out).symm,((hb.alloc hz _).drew.trans (hb1.mono (by simp;omega)))⟩
      ·go_simp
       apply hK
       clear hK K
       refine rZz 12 λ K hK=>?_;go_simp;apply hK;clear hK K
       refine rZz 15 λ K hK=>?_;go_simp;apply hK;clear hK K
       refine rZz 16 λ K hK=>?_;go_simp;apply hK;clear hK K
       refine rZz 17 λ K hK=>?_;go_simp;apply hK;clear hK K
       refine wDz ?_
       go_wp2
       go_ret
       exact ⟨(ret_b hD.out).symm,((hb.alloc hz _).drew.trans (hb1.mono (by simp;omega)))⟩
     ·have hD:=Hdz (hS.out.trans (by rw [hE.out,hr,hq]<;>rfl))
      clear hr hS hF hE
      go_wp2
      obtain ⟨p0,p2,p1,p3⟩:=BoxI.c bx0
      refine wRz ?_
      refine rZz 0 λ K hK=>?_;go_simp;apply hK;clear hK K
      refine rZz 1 λ K hK=>?_;go_simp
      (go_at_call 266;go_must (refine (hC _).mono ?_);rintro e w1 ⟨rfl,hb1⟩;have bx1:=Blk.below' (Blk.drew bx0) hb1;obtain ⟨r0,_⟩:=BoxI.c bx1;have hz1:=hb1.size;simp at hz1;have j1:w1.cell? ⟨blk,off+j*4,none⟩=some (strV y.key):=(hb1.cell (p:=⟨blk,off+j*4,none⟩) (by simp;omega)).trans ((World.cell?_alloc_past _ _ _ (by omega)).trans j0))
      go_simp
      apply hK
      clear hK K
      refine rZz 2 λ K hK=>?_;go_simp;apply hK;clear hK K
      refine rZz 3 λ K hK=>?_;go_simp;apply hK;clear hK K
      refine rZz 4 λ K hK=>?_;go_simp;apply hK;clear hK K
      refine rZz 5 λ K hK=>?_;go_simp;apply hK;clear hK K
      refine rZz 6 λ K hK=>?_;go_simp;apply hK;clear hK K
      try simp only [lAz]
      refine tA 7 ?_;try simp only [lAz]
      refine tA 8 ?_;try simp only [lAz]
      refine tA 9 ?_;try simp only [lAz]
      refine tA 10 ?_;try simp only [lAz]
      refine tA 11 ?_;try simp only [lAz]
      refine tA 13 ?_;try simp only [lAz]
      refine wpAny_ready (rs:=[12,14]) (by kernel_rfl) (by simp) (aCz (λ K hK=>?_) (aCz (λ K hK=>?_) AllReady.nil))
      ·go_simp
       apply hK
       clear hK K
       refine rZz 14 λ K hK=>?_;go_simp;apply hK;clear hK K
       refine rZz 15 λ K hK=>?_;go_simp;apply hK;clear hK K
       refine rZz 16 λ K hK=>?_;go_simp;apply hK;clear hK K
       refine rZz 17 λ K hK=>?_;go_simp;apply hK;clear hK K
       refine wDz ?_
       go_wp2
       go_roundw
       case rel=>exact ⟨j+1+1,by omega,by go_num,hD,((hb.alloc hz _).drew.trans (hb1.mono (by simp;omega)))⟩
       case measure=>simp [Go.RowKit.intOf];omega
      ·go_simp
       apply hK
       clear hK K
       refine rZz 12 λ K hK=>?_;go_simp;apply hK;clear hK K
       refine rZz 15 λ K hK=>?_;go_simp;apply hK;clear hK K
       refine rZz 16 λ K hK=>?_;go_simp;apply hK;clear hK K
       refine rZz 17 λ K hK=>?_;go_simp;apply hK;clear hK K
       refine wDz ?_
       go_wp2
       go_roundw
       case rel=>exact ⟨j+1+1,by omega,by go_num,hD,((hb.alloc hz _).drew.trans (hb1.mono (by simp;omega)))⟩
       case measure=>simp [Go.RowKit.intOf];omega
  ·have hkn:k=n:=by omega
   subst hkn
   have hr:=Hdz ((congrArg riseI (List.take_of_length_le (show l.length<=k by omega))).symm.trans hR.out)
   clear hv hl1
   go_wp2
   go_ret
   exact ⟨(ret_b hr.out).symm,hb⟩
def cmpB (a b:Bytes):Int:=if lessB a b=true then -1 else if lessB b a=true then 1 else 0
theorem nan_any (a:Bytes) (w:World):Calls Tryz.prog 226 #[strV a] w λ e w'=>e=.returned (.bool false)/\w'=w:=by
 have hk:(!a==a)=false:=by simp
 go_enter Tryz.func226,Tryz.ntmps226
 go_wp2
 go_ret
 exact ⟨rfl,rfl⟩
theorem cmp_any (a b:Bytes) (w:World):Calls Tryz.prog 185 #[strV a,strV b] w λ e w'=>e=.returned (.int .i64 (cmpB a b))/\w'=w:=by
 cases h1:lessB a b
 ·cases h2:lessB b a
  ·have hC:=Hdz (show cmpB a b=0 by simp [cmpB,h1,h2])
   have he:(!a==b)=false:=by
    rcases lessB_total a b with h | h | h
    ·rw [h1] at h;cases h
    ·simp [h]
    ·rw [h2] at h;cases h
   go_enter Tryz.func185,Tryz.ntmps185
   go_wp2_with (go_at_call 226;go_must (refine (nan_any _ _).mono ?_);rintro e w1 ⟨rfl,rfl⟩)
   go_ret
   exact ⟨by rw [hC.out]<;>rfl,rfl⟩
  ·have hC:=Hdz (show cmpB a b=1 by simp [cmpB,h1,h2])
   have he:(!a==b)=true:=by
    have:¬ a=b:=by rintro rfl;rw [lessB_irrefl] at h2;cases h2
    simp [this]
   go_enter Tryz.func185,Tryz.ntmps185
   go_wp2_with (go_at_call 226;go_must (refine (nan_any _ _).mono ?_);rintro e w1 ⟨rfl,rfl⟩)
   go_ret
   exact ⟨by rw [hC.out]<;>rfl,rfl⟩
 ·have hC:=Hdz (show cmpB a b = -1 by simp [cmpB,h1])
  go_enter Tryz.func185,Tryz.ntmps185
  go_wp2_with (go_at_call 226;go_must (refine (nan_any _ _).mono ?_);rintro e w1 ⟨rfl,rfl⟩)
  go_ret
  exact ⟨by rw [hC.out]<;>rfl,rfl⟩
theorem find1_any (x:Item) (k:Bytes) (w:World) :
  Calls Tryz.prog 184 #[.agg #[strV x.key,strV x.val,.int .i64 x.over,.int .i64 x.size],strV k] w λ e w'=>e=.returned (.int .i64 (cmpB x.key k))/\Below w.heap.size w w':=by
 have bx0:BoxI (w.alloc (.cells #[strV x.key,strV x.val,.int .i64 x.over,.int .i64 x.size] 223)) w.heap.size x:=Blk.new _ _ _
 obtain ⟨p0,p2,p1,p3⟩:=BoxI.c bx0
 have hb:=(Below.refl w.heap.size w).alloc (Nat.le_refl _) (.cells #[strV x.key,strV x.val,.int .i64 x.over,.int .i64 x.size] 223)
 go_enter Tryz.func184,Tryz.ntmps184
 go_wp2_with (go_at_call 185;go_must (refine (cmp_any _ _ _).mono ?_);rintro e w1 ⟨rfl,rfl⟩)
 go_ret
 exact ⟨rfl,hb⟩
theorem cmpB_neg {a b:Bytes}:cmpB a b<0↔lessB a b=true:=by
 unfold cmpB
 split
 ·simp_all
 ·split<;>simp_all
theorem cmpB_zero {a b:Bytes}:cmpB a b=0↔a=b:=by
 constructor
 ·intro h
  unfold cmpB at h
  rcases lessB_total a b with h1 | h1 | h1
  ·rw [if_pos h1] at h;cases h
  ·exact h1
  ·split at h
   ·cases h
   ·simp [h1] at h
 ·rintro rfl
  simp [cmpB,lessB_irrefl]
def Mid (k:Bytes) (l:List Item) (lo hi:Nat):Prop:=lo<=ahead k l/\ahead k l<=hi
theorem search_any (A:Option Addr) (n c:Nat) (l:List Item) (k:Bytes) (w:World) (hv:Sl w 4 (.slice A n c) n (itemsCs l)) (hn:n<=100000) (hr:riseI l=true) :
  Calls Tryz.prog 183 #[.slice A n c,strV k,.func (.func 184) #[] #[]] w λ e w' =>
   e=.returned (.tuple #[.int .i64 (ahead k l:Nat),.bool (isAt k l)])/\Below w.heap.size w w':=by
 have hl1:l.length=n:=by obtain ⟨_,_,e,_,h1,_⟩:=hv;rw [itemsCs_len] at h1;omega
 have hA:=ahead_le k l
 go_enter Tryz.func183,Tryz.ntmps183
 go_wp2
 go_loopg [9,10] n (λ kx s9 s10 wr=>∃ lo hi:Nat,s9=.int .i64 lo/\s10=.int .i64 hi/\lo<=hi/\hi<=n/\hi-lo<=kx/\Hid (Mid k l lo hi)/\Below w.heap.size w wr)
 case atStart=>exact ⟨0,n,rfl,rfl,Nat.zero_le _,Nat.le_refl _,by omega,⟨Nat.zero_le _,by omega⟩,Below.refl _ _⟩
 case round =>
  obtain ⟨lo,hi,rfl,rfl,hlh,hin,hg,hM,hb⟩:=hrel
  have hz:=hb.size
  by_cases hlt:lo<hi
  ·obtain ⟨A',c',e0,h0,h1,h2⟩:=hv
   cases e0
   obtain ⟨blk,off,rfl,hbl,hcell⟩:=h2 (by omega)
   have hk':(lo+hi) / 2<l.length:=by omega
   obtain ⟨i0,i1,i2,i3⟩:=item_4 (w:=wr) λ j u hu=>(hb.cell (p:=⟨blk,off+(lo+hi) / 2*4+j,none⟩) hbl).trans (item_cells (n:=n) hcell hk' j u hu)
   have hx:l[(lo+hi) / 2]? = some l[(lo+hi) / 2]:=List.getElem?_eq_getElem hk'
   have hC:=λ W=>find1_any l[(lo+hi) / 2] k W
   generalize l[(lo+hi) / 2]=x at *
   clear hcell h2 h1
   by_cases hlx:cmpB x.key k<0
   ·have hM2:Hid (Mid k l ((lo+hi) / 2+1) hi):=by
     refine ⟨?_,hM.2⟩
     refine Nat.lt_of_not_le λ h=>?_
     have:=ahead_ge hr h hx
     rw [cmpB_neg.1 hlx] at this
     cases this
    go_wp2_with (fail)
    go_must (refine (hC _).mono ?_)
    rintro e w1 ⟨rfl,hb1⟩
    go_wp2_with (fail)
    go_roundg (hi-((lo+hi) / 2+1))
    case measure=>omega
    case rel=>exact ⟨(lo+hi) / 2+1,hi,by rw [show ((lo:Int)+(hi:Int)) / 2+1=(((lo+hi) / 2+1:Nat):Int) by omega],rfl,by omega,hin,Nat.le_refl _,hM2,hb.trans (hb1.mono hb.size)⟩
   ·have hM2:Hid (Mid k l lo ((lo+hi) / 2)):=by
     refine ⟨hM.1,Nat.le_of_not_lt λ h=>?_⟩
     obtain ⟨y,h1,h2⟩:=ahead_lt h
     rw [hx] at h1
     cases h1
     exact hlx (cmpB_neg.2 h2)
    go_wp2_with (fail)
    go_must (refine (hC _).mono ?_)
    rintro e w1 ⟨rfl,hb1⟩
    go_wp2_with (fail)
    go_roundg ((lo+hi) / 2-lo)
    case measure=>omega
    case rel=>exact ⟨lo,(lo+hi) / 2,rfl,by rw [show ((lo:Int)+(hi:Int)) / 2=(((lo+hi) / 2:Nat):Int) by omega],by omega,by omega,Nat.le_refl _,hM2,hb.trans (hb1.mono hb.size)⟩
  ·obtain rfl:hi=lo:=by omega
   obtain ⟨m1,m2⟩:=hM.out
   obtain rfl:hi=ahead k l:=by omega
   by_cases hlt2:ahead k l<n
   ·obtain ⟨A',c',e0,h0,h1,h2⟩:=hv
    cases e0
    obtain ⟨blk,off,rfl,hbl,hcell⟩:=h2 (by omega)
    have hk':ahead k l<l.length:=by omega
    obtain ⟨i0,i1,i2,i3⟩:=item_4 (w:=wr) λ j u hu=>(hb.cell (p:=⟨blk,off+ahead k l*4+j,none⟩) hbl).trans (item_cells (n:=n) hcell hk' j u hu)
    have hx:l[ahead k l]? = some l[ahead k l]:=List.getElem?_eq_getElem hk'
    have hC:=λ W=>find1_any l[ahead k l] k W
    have hI:isAt k l=true↔l[ahead k l].key=k:=by
     rw [isAt_iff,hx]
     simp
    generalize l[ahead k l]=x at *
    have hI2:Hid (isAt k l=(cmpB x.key k==0)):=by
     show _=_
     rw [Bool.eq_iff_iff,hI,beq_iff_eq,cmpB_zero]
    clear hcell h2 h1 hI hM m1 m2 hA
    generalize hp0:ahead k l=p at *
    have hp:=Hdz hp0
    clear hp0
    go_wp2_with (fail)
    go_must (refine (hC _).mono ?_)
    rintro e w1 ⟨rfl,hb1⟩
    go_wp2_with (fail)
    go_ret2
    exact ⟨by rw [hI2.out,hp.out]<;>rfl,hb.trans (hb1.mono hb.size)⟩
   ·have hI2:Hid (isAt k l=false):=by
     show _=_
     cases h:isAt k l
     ·rfl
     ·obtain ⟨x,h1,_⟩:=isAt_iff.1 h
      have:=(List.getElem?_eq_some_iff.1 h1).1
      omega
    clear hM m1 m2 hA
    generalize hp0:ahead k l=p at *
    have hp:=Hdz hp0
    clear hp0
    go_wp2
    go_ret2
    exact ⟨by rw [hI2.out,hp.out]<;>rfl,hb⟩
theorem findI_any (A:Option Addr) (n c:Nat) (l:List Item) (k:Bytes) (w:World) (hv:Sl w 4 (.slice A n c) n (itemsCs l)) (hn:n<=100000) (hr:riseI l=true) :
  Calls Tryz.prog 134 #[.slice A n c,strV k] w λ e w' =>
   e=.returned (.tuple #[.int .i64 (ahead k l:Nat),.bool (isAt k l)])/\Below w.heap.size w w':=by
 have hC:=Hdz (search_any A n c l k w hv hn hr)
 go_enter Tryz.func134,Tryz.ntmps134
 go_wp2_with (fail)
 go_must (refine hC.out.mono ?_)
 rintro e w1 ⟨rfl,hb1⟩
 go_wp2_with (fail)
 go_ret2
 exact ⟨rfl,hb1⟩
theorem itemsCs_one:∀ (l:List Item),∀ u∈itemsCs l,u.oneCell'=true
 | [],u,h=>by simp [itemsCs] at h
 | x :: l,u,h=>by
  simp only [itemsCs,List.mem_append] at h
  rcases h with h | h
  ·simp only [itemCs,List.mem_cons,List.not_mem_nil,or_false] at h
   rcases h with rfl | rfl | rfl | rfl<;>rfl
  ·exact itemsCs_one l u h
theorem cloneI_any (A:Addr) (n c:Nat) (l:List Item) (w:World) (hv:Sl w 4 (.slice (some A) n c) n (itemsCs l)) (hn:n<=100000) :
  Calls Tryz.prog 201 #[.slice (some A) n c] w λ e w' =>
   ∃ v',e=.returned v'/\w'.ownsRow w.heap.size 223 4 v' n (itemsCs l)/\Below w.heap.size w w':=by
 obtain ⟨i0,hi,hz0,hz1,hz2⟩:=info_parts (show (Tryz.prog.info? 223).map (λ i=>(i.zero,i.size,i.bytes))=some (some (.agg #[.string ⟨#[]⟩,.string ⟨#[]⟩,.int .i64 0,.int .i64 0]),4,48) by kernel_rfl)
 have q22:∀ (w:World) (a:Option Addr) (n c n' c':Nat),(binOp .eql 217 (.slice a n c) (.slice none n' c')).run Tryz.prog w=.ok (.bool a.isNone) w:=λ w a n c n' c'=>Lib.run_eql_slice_nil w _ 223 a n c n' c' Tryz.underlying217
 go_enter Tryz.func201,Tryz.ntmps201
 go_wp2_with (at_builtin;go_must (refine wpList_append_own _ rfl _ _ 217 rfl w.heap.size 223 i0 _ 4 48 Tryz.underlying217 hi hz0 hz1 hz2 rfl (by decide) _ _ _ rfl (World.ownsRow_made w #[] 0 (Nat.le_refl _) (Nat.zero_le _) rfl) A n c (itemsCs l) rfl ?c0 ?c1 ?c2 ?c3 ?c4 ?c5 ?_))
 case c0 =>
  obtain ⟨_,_,e0,h0,h1,h2⟩:=hv
  simpa using h1
 case c1 =>
  obtain ⟨_,_,e0,h0,h1,h2⟩:=hv
  intro j u hu
  have hj:=(List.getElem?_eq_some_iff.1 hu).1
  obtain ⟨b,o,eA,h4,h5⟩:=h2 (by omega)
  simp only [Value.slice.injEq] at e0
  rw [<- e0.1] at eA
  cases eA
  rw [Addr.add_lit]
  exact Lib.cell?_alloc_some _ (h5 j u hu)
 case c2=>exact itemsCs_one l
 case c3=>unfold maxLen;omega
 case c4=>omega
 case c5=>simp
 intro v' w1 hown hgrow hnil
 go_wp2
 go_ret
 exact ⟨v',rfl,by simpa using hown,((Below.refl _ w).alloc (Nat.le_refl _) _).grown hgrow (by simp) (by intro k hk;simp [Value.ownBlock] at hk;omega)⟩
structure ItemsOk (l:List Item):Prop where
 keys:KeysOk l
 nums:∀ x∈l,I64 x.over/\I64 x.size
 len:(layI l).length<=100000
 few:l.length<=100000
theorem Sl.len4 {w:World} {A:Option Addr} {n c:Nat} {l:List Item} (h:Sl w 4 (.slice A n c) n (itemsCs l)):l.length=n:=by
 obtain ⟨_,_,e,_,h1,_⟩:=h
 rw [itemsCs_len] at h1
 omega
def PutPost (l:List Item) (w:World) (e:Ending) (w':World):Prop:=e=.returned (.tuple #[strV (putI l).1,.int .i64 (putI l).2])/\Below w.heap.size w w'
theorem putI_any (A:Option Addr) (n c:Nat) (l:List Item) (w:World) (hv:Sl w 4 (.slice A n c) n (itemsCs l)) (ho:ItemsOk l) :
  Calls Tryz.prog 198 #[.slice A n c] w (PutPost l w):=by
 have hn:n<=100000:=by have:=hv.len4;have:=ho.few;omega
 have hR:=λ W (h:Sl W 4 (.slice A n c) n (itemsCs l))=>rise_any A n c l W h hn ho.keys
 have hLn:=ho.len
 cases hr:riseI l
 ·have hp:=Hdz (show putI l=([],1) by unfold putI;rw [if_pos hr])
  simp only [hr] at hR
  have HR:=Hdz hR
  clear hR hr hLn
  go_enter Tryz.func198,Tryz.ntmps198
  go_wp2_with (go_at_call 234;go_must (refine (HR.out _ hv).mono ?_);rintro e w1 ⟨rfl,hb1⟩)
  go_ret2
  exact ⟨by rw [hp.out]<;>rfl,hb1⟩
 ·simp only [hr] at hR
  have HR:=Hdz hR
  have hL:=Hdz (λ W (h:Sl W 4 (.slice A n c) n (itemsCs l))=>lay_any A n c l W h ho.len hn ho.nums)
  by_cases h240:240<(layI l).length
  ·have hp:=Hdz (show putI l=([],2) by unfold putI;rw [if_neg (by simp [hr]),if_pos h240])
   have h240':(240:Int)<((layI l).length:Int):=by omega
   clear hR hr h240
   go_enter Tryz.func198,Tryz.ntmps198
   go_wp2_with (first
    | (go_at_call 234;go_must (refine (HR.out _ hv).mono ?_);rintro e w1 ⟨rfl,hb1⟩)
    | (go_at_call 235;go_must (refine (hL.out _ (hv.below hb1)).mono ?_);rintro e w2 ⟨rfl,hb2⟩))
   go_ret2
   exact ⟨by rw [hp.out]<;>rfl,hb1.trans (hb2.mono hb1.size)⟩
  ·have hp:=Hdz (show putI l=(layI l,0) by unfold putI;rw [if_neg (by simp [hr]),if_neg h240])
   have h240':¬ (240:Int)<((layI l).length:Int):=by omega
   clear hR hr h240
   go_enter Tryz.func198,Tryz.ntmps198
   go_wp2_with (first
    | (go_at_call 234;go_must (refine (HR.out _ hv).mono ?_);rintro e w1 ⟨rfl,hb1⟩)
    | (go_at_call 235;go_must (refine (hL.out _ (hv.below hb1)).mono ?_);rintro e w2 ⟨rfl,hb2⟩))
   go_ret2
   exact ⟨by rw [hp.out]<;>rfl,hb1.trans (hb2.mono hb1.size)⟩
theorem sizeI_any (A:Option Addr) (n c:Nat) (l:List Item) (w:World) (hv:Sl w 4 (.slice A n c) n (itemsCs l)) (ho:ItemsOk l) :
  Calls Tryz.prog 236 #[.slice A n c] w λ e w'=>e=.returned (.int .i64 (layI l).length)/\Below w.heap.size w w':=by
 have hn:n<=100000:=by have:=hv.len4;have:=ho.few;omega
 have hL:=Hdz (lay_any A n c l w hv ho.len hn ho.nums)
 have hLn:=ho.len
 go_enter Tryz.func236,Tryz.ntmps236
 go_wp2_with (go_at_call 235;go_must (refine hL.out.mono ?_);rintro e w2 ⟨rfl,hb2⟩)
 go_ret
 exact ⟨rfl,hb2⟩
end Go.Ev
namespace Go.Ev
open Go.Lib
theorem i64_zero:I64 0:=⟨by decide,by decide⟩
theorem unzig_i64 {n:Nat} (h:n<18446744073709551616):I64 (unzigzag n):=by
 unfold unzigzag I64
 split<;>omega
theorem numP_i64:∀ (b:Bytes) (i acc:Nat),i<=9->acc<2 ^ (7*i)->I64 (numP i acc b).1
 | [],_,_,_,_=>i64_zero
 | c :: r,i,acc,hi,ha=>by
  have hc:c.toNat<256:=c.toNat_lt
  have e6:(2:Nat) ^ (7*(i+1))=128*2 ^ (7*i):=by rw [Nat.mul_add,Nat.pow_add];simp [Nat.mul_comm]
  unfold numP
  split
  ·exact i64_zero
  ·rename_i h9
   split
   ·rename_i h128
    have hi8:i≠9:=λ h=>h9 ⟨h,by omega⟩
    have hl:c.toNat % 128*2 ^ (7*i)<=127*2 ^ (7*i):=Nat.mul_le_mul_right _ (by omega)
    exact numP_i64 r (i+1) _ (by omega) (by rw [e6];omega)
   ·rename_i h128
    split
    ·exact i64_zero
    ·apply unzig_i64
     by_cases hi9:i=9
     ·subst hi9
      have e:(2:Nat) ^ (7*9)=9223372036854775808:=by decide
      rw [e] at ha ⊢
      have:c.toNat<=1:=by
       apply Decidable.byContradiction
       intro h2
       exact h9 ⟨rfl,by omega⟩
      omega
     ·have hl:c.toNat*2 ^ (7*i)<=127*2 ^ (7*i):=Nat.mul_le_mul_right _ (by omega)
      have hp:(2:Nat) ^ (7*i)<=2 ^ 56:=Nat.pow_le_pow_right (by decide) (by omega)
      have e:(2:Nat) ^ 56=72057594037927936:=by decide
      rw [e] at hp
      omega
theorem Rd.var_i64 (r:Rd):I64 r.var.1:=by
 unfold Rd.var
 split
 ·exact i64_zero
 ·split
  ·exact i64_zero
  ·exact numP_i64 _ 0 0 (by omega) (by decide)
theorem Rd.text_len (r:Rd) {m:Nat}:(r.text m).1.length<=m:=by
 unfold Rd.text
 split
 ·simp
 ·rename_i h
  obtain ⟨_,h2,h3,h4⟩:=Rd.count_ok (Decidable.not_not.1 h)
  split
  ·simp
  ·rw [List.length_take,h2]
   omega
def Item.short (x:Item):Prop:=x.key.length<=40/\x.val.length<=60/\I64 x.over/\I64 x.size
theorem Rd.item_ok (r:Rd):r.item.1.short:=by
 unfold Rd.item Item.short
 have h1:(r.text 40).1.length<=40:=r.text_len (m:=40)
 dsimp only
 split
 ·exact ⟨h1,by simp,Rd.var_i64 _,Rd.var_i64 _⟩
 ·exact ⟨h1,Rd.text_len _ (m:=60),i64_zero,i64_zero⟩
theorem Item.lay_short {x:Item} (h:x.short):x.lay.length<=121:=by
 obtain ⟨h1,h2,h3,h4⟩:=h
 have k1:=(varB_len (x.key.length:Int) ⟨by omega,by omega⟩).2
 have k2:=(varB_len (x.val.length:Int) ⟨by omega,by omega⟩).2
 have k3:=(varB_len x.over h3).2
 have k4:=(varB_len x.size h4).2
 have k5:(boolB (x.over != 0)).length=1:=by unfold boolB;split<;>rfl
 unfold Item.lay textB
 split<;>simp only [List.length_append]<;>omega
theorem layI_short:∀ {l:List Item},(∀ x∈l,x.short)->(layI l).length<=121*l.length
 | [],_=>by simp [layI]
 | x :: l,h=>by
  have h1:=Item.lay_short (h x (List.mem_cons_self ..))
  have h2:=layI_short λ y hy=>h y (List.mem_cons_of_mem _ hy)
  simp only [layI,List.length_append,List.length_cons]
  omega
theorem Rd.items_step {r:Rd} (h:r.e=0/\r.b≠[]):r.items=(r.item.1 :: r.item.2.items.1,r.item.2.items.2):=by
 rw [Rd.items,dif_pos h]
 by_cases h2:r.item.2.e=0
 ·rw [dif_pos h2]
 ·rw [dif_neg h2]
  have:r.item.2.items=([],r.item.2):=by
   rw [Rd.items,dif_neg (λ hc=>h2 hc.1)]
  rw [this]
theorem Rd.items_end {r:Rd} (h:¬ (r.e=0/\r.b≠[])):r.items=([],r):=by rw [Rd.items,dif_neg h]
end Go.Ev
