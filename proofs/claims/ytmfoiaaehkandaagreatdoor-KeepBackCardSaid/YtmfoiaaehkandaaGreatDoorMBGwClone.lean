/-
  Texts of this claim.
-/
import Derived.Test.YtmfoiaaehkandaaGreatDoorMBGwPut
import Derived.Deep.LoopGhost
set_option linter.unusedVariables false
set_option linter.unusedSimpArgs false
set_option maxHeartbeats 4000000
set_option maxRecDepth 100000
namespace Go.Ev
open Go.Proofs Go.RowKit
def cmpB (a b:Bytes):Int:=if lessB a b=true then -1 else if lessB b a=true then 1 else 0
theorem nan_any (a:Bytes) (w:World):Calls Tryz.prog 226 #[strV a] w λ e w'=>e=.returned (.bool false)/\w'=w:=by
 have hk:(!a==a)=false:=by simp
 go_enter Tryz.func226,Tryz.ntmps226
 go_wp2
 go_ret
 exact ⟨rfl,rfl⟩
theorem cmp_any (a b:Bytes) (w:World):Calls Tryz.prog 185 #[strV a,strV b] w λ e w'=>e=.returned (.int .i64 (cmpB a b))/\w'=w:=by
 cases h1:lessB a b
 ·cases h2:lessB b a
  ·have hC:=Hdz (show cmpB a b=0 by simp [cmpB,h1,h2])
   have he:(!a==b)=false:=by
    rcases lessB_total a b with h | h | h
    ·rw [h1] at h;cases h
    ·simp [h]
    ·rw [h2] at h;cases h
   go_enter Tryz.func185,Tryz.ntmps185
   go_wp2_with (go_at_call 226;go_must (refine (nan_any _ _).mono ?_);rintro e w1 ⟨rfl,rfl⟩)
   go_ret
   exact ⟨by rw [hC.out]<;>rfl,rfl⟩
  ·have hC:=Hdz (show cmpB a b=1 by simp [cmpB,h1,h2])
   have he:(!a==b)=true:=by
    have:¬ a=b:=by rintro rfl;rw [lessB_irrefl] at h2;cases h2
    simp [this]
   go_enter Tryz.func185,Tryz.ntmps185
   go_wp2_with (go_at_call 226;go_must (refine (nan_any _ _).mono ?_);rintro e w1 ⟨rfl,rfl⟩)
   go_ret
   exact ⟨by rw [hC.out]<;>rfl,rfl⟩
 ·have hC:=Hdz (show cmpB a b = -1 by simp [cmpB,h1])
  go_enter Tryz.func185,Tryz.ntmps185
  go_wp2_with (go_at_call 226;go_must (refine (nan_any _ _).mono ?_);rintro e w1 ⟨rfl,rfl⟩)
  go_ret
  exact ⟨by rw [hC.out]<;>rfl,rfl⟩
theorem find1_any (x:Item) (k:Bytes) (w:World) :
  Calls Tryz.prog 184 #[.agg #[strV x.key,strV x.val,.int .i64 x.over,.int .i64 x.size],strV k] w λ e w'=>e=.returned (.int .i64 (cmpB x.key k))/\Below w.heap.size w w':=by
 have bx0:BoxI (w.alloc (.cells #[strV x.key,strV x.val,.int .i64 x.over,.int .i64 x.size] 223)) w.heap.size x:=Blk.new _ _ _
 obtain ⟨p0,p2,p1,p3⟩:=BoxI.c bx0
 have hb:=(Below.refl w.heap.size w).alloc (Nat.le_refl _) (.cells #[strV x.key,strV x.val,.int .i64 x.over,.int .i64 x.size] 223)
 go_enter Tryz.func184,Tryz.ntmps184
 go_wp2_with (go_at_call 185;go_must (refine (cmp_any _ _ _).mono ?_);rintro e w1 ⟨rfl,rfl⟩)
 go_ret
 exact ⟨rfl,hb⟩
theorem cmpB_neg {a b:Bytes}:cmpB a b<0↔lessB a b=true:=by
 unfold cmpB
 split
 ·simp_all
 ·split<;>simp_all
theorem cmpB_zero {a b:Bytes}:cmpB a b=0↔a=b:=by
 constructor
 ·intro h
  unfold cmpB at h
  rcases lessB_total a b with h1 | h1 | h1
  ·rw [if_pos h1] at h;cases h
  ·exact h1
  ·split at h
   ·cases h
   ·simp [h1] at h
 ·rintro rfl
  simp [cmpB,lessB_irrefl]
def Mid (k:Bytes) (l:List Item) (lo hi:Nat):Prop:=lo<=ahead k l/\ahead k l<=hi
theorem search_any (A:Option Addr) (n c:Nat) (l:List Item) (k:Bytes) (w:World) (hv:Sl w 4 (.slice A n c) n (itemsCs l)) (hn:n<=100000) (hr:riseI l=true) :
  Calls Tryz.prog 183 #[.slice A n c,strV k,.func (.func 184) #[] #[]] w λ e w' =>
   e=.returned (.tuple #[.int .i64 (ahead k l:Nat),.bool (isAt k l)])/\Below w.heap.size w w':=by
 have hl1:l.length=n:=by obtain ⟨_,_,e,_,h1,_⟩:=hv;rw [itemsCs_len] at h1;omega
 have hA:=ahead_le k l
 go_enter Tryz.func183,Tryz.ntmps183
 go_wp2
 go_loopg [9,10] n (λ kx s9 s10 wr=>∃ lo hi:Nat,s9=.int .i64 lo/\s10=.int .i64 hi/\lo<=hi/\hi<=n/\hi-lo<=kx/\Hid (Mid k l lo hi)/\Below w.heap.size w wr)
 case atStart=>exact ⟨0,n,rfl,rfl,Nat.zero_le _,Nat.le_refl _,by omega,⟨Nat.zero_le _,by omega⟩,Below.refl _ _⟩
 case round =>
  obtain ⟨lo,hi,rfl,rfl,hlh,hin,hg,hM,hb⟩:=hrel
  have hz:=hb.size
  by_cases hlt:lo<hi
  ·obtain ⟨A',c',e0,h0,h1,h2⟩:=hv
   cases e0
   obtain ⟨blk,off,rfl,hbl,hcell⟩:=h2 (by omega)
   have hk':(lo+hi) / 2<l.length:=by omega
   obtain ⟨i0,i1,i2,i3⟩:=item_4 (w:=wr) λ j u hu=>(hb.cell (p:=⟨blk,off+(lo+hi) / 2*4+j,none⟩) hbl).trans (item_cells (n:=n) hcell hk' j u hu)
   have hx:l[(lo+hi) / 2]? = some l[(lo+hi) / 2]:=List.getElem?_eq_getElem hk'
   have hC:=λ W=>find1_any l[(lo+hi) / 2] k W
   generalize l[(lo+hi) / 2]=x at *
   clear hcell h2 h1
   by_cases hlx:cmpB x.key k<0
   ·have hM2:Hid (Mid k l ((lo+hi) / 2+1) hi):=by
     refine ⟨?_,hM.2⟩
     refine Nat.lt_of_not_le λ h=>?_
     have:=ahead_ge hr h hx
     rw [cmpB_neg.1 hlx] at this
     cases this
    go_wp2_with (fail)
    go_must (refine (hC _).mono ?_)
    rintro e w1 ⟨rfl,hb1⟩
    go_wp2_with (fail)
    go_roundg (hi-((lo+hi) / 2+1))
    case measure=>omega
    case rel=>exact ⟨(lo+hi) / 2+1,hi,by rw [show ((lo:Int)+(hi:Int)) / 2+1=(((lo+hi) / 2+1:Nat):Int) by omega],rfl,by omega,hin,Nat.le_refl _,hM2,hb.trans (hb1.mono hb.size)⟩
   ·have hM2:Hid (Mid k l lo ((lo+hi) / 2)):=by
     refine ⟨hM.1,Nat.le_of_not_lt λ h=>?_⟩
     obtain ⟨y,h1,h2⟩:=ahead_lt h
     rw [hx] at h1
     cases h1
     exact hlx (cmpB_neg.2 h2)
    go_wp2_with (fail)
    go_must (refine (hC _).mono ?_)
    rintro e w1 ⟨rfl,hb1⟩
    go_wp2_with (fail)
    go_roundg ((lo+hi) / 2-lo)
    case measure=>omega
    case rel=>exact ⟨lo,(lo+hi) / 2,rfl,by rw [show ((lo:Int)+(hi:Int)) / 2=(((lo+hi) / 2:Nat):Int) by omega],by omega,by omega,Nat.le_refl _,hM2,hb.trans (hb1.mono hb.size)⟩
  ·obtain rfl:hi=lo:=by omega
   obtain ⟨m1,m2⟩:=hM.out
   obtain rfl:hi=ahead k l:=by omega
   by_cases hlt2:ahead k l<n
   ·obtain ⟨A',c',e0,h0,h1,h2⟩:=hv
    cases e0
    obtain ⟨blk,off,rfl,hbl,hcell⟩:=h2 (by omega)
    have hk':ahead k l<l.length:=by omega
    obtain ⟨i0,i1,i2,i3⟩:=item_4 (w:=wr) λ j u hu=>(hb.cell (p:=⟨blk,off+ahead k l*4+j,none⟩) hbl).trans (item_cells (n:=n) hcell hk' j u hu)
    have hx:l[ahead k l]? = some l[ahead k l]:=List.getElem?_eq_getElem hk'
    have hC:=λ W=>find1_any l[ahead k l] k W
    have hI:isAt k l=true↔l[ahead k l].key=k:=by
     rw [isAt_iff,hx]
     simp
    generalize l[ahead k l]=x at *
    have hI2:Hid (isAt k l=(cmpB x.key k==0)):=by
     show _=_
     rw [Bool.eq_iff_iff,hI,beq_iff_eq,cmpB_zero]
    clear hcell h2 h1 hI hM m1 m2 hA
    generalize hp0:ahead k l=p at *
    have hp:=Hdz hp0
    clear hp0
    go_wp2_with (fail)
    go_must (refine (hC _).mono ?_)
    rintro e w1 ⟨rfl,hb1⟩
    go_wp2_with (fail)
    go_ret2
    exact ⟨by rw [hI2.out,hp.out]<;>rfl,hb.trans (hb1.mono hb.size)⟩
   ·have hI2:Hid (isAt k l=false):=by
     show _=_
     cases h:isAt k l
     ·rfl
     ·obtain ⟨x,h1,_⟩:=isAt_iff.1 h
      have:=(List.getElem?_eq_some_iff.1 h1).1
      omega
    clear hM m1 m2 hA
    generalize hp0:ahead k l=p at *
    have hp:=Hdz hp0
    clear hp0
    go_wp2
    go_ret2
    exact ⟨by rw [hI2.out,hp.out]<;>rfl,hb⟩
theorem findI_any (A:Option Addr) (n c:Nat) (l:List Item) (k:Bytes) (w:World) (hv:Sl w 4 (.slice A n c) n (itemsCs l)) (hn:n<=100000) (hr:riseI l=true) :
  Calls Tryz.prog 134 #[.slice A n c,strV k] w λ e w' =>
   e=.returned (.tuple #[.int .i64 (ahead k l:Nat),.bool (isAt k l)])/\Below w.heap.size w w':=by
 have hC:=Hdz (search_any A n c l k w hv hn hr)
 go_enter Tryz.func134,Tryz.ntmps134
 go_wp2_with (fail)
 go_must (refine hC.out.mono ?_)
 rintro e w1 ⟨rfl,hb1⟩
 go_wp2_with (fail)
 go_ret2
 exact ⟨rfl,hb1⟩
theorem itemsCs_one:∀ (l:List Item),∀ u∈itemsCs l,u.oneCell'=true
 | [],u,h=>by simp [itemsCs] at h
 | x :: l,u,h=>by
  simp only [itemsCs,List.mem_append] at h
  rcases h with h | h
  ·simp only [itemCs,List.mem_cons,List.not_mem_nil,or_false] at h
   rcases h with rfl | rfl | rfl | rfl<;>rfl
  ·exact itemsCs_one l u h
theorem cloneI_any (A:Addr) (n c:Nat) (l:List Item) (w:World) (hv:Sl w 4 (.slice (some A) n c) n (itemsCs l)) (hn:n<=100000) :
  Calls Tryz.prog 201 #[.slice (some A) n c] w λ e w' =>
   ∃ v',e=.returned v'/\w'.ownsRow w.heap.size 223 4 v' n (itemsCs l)/\Below w.heap.size w w':=by
 obtain ⟨i0,hi,hz0,hz1,hz2⟩:=info_parts (show (Tryz.prog.info? 223).map (λ i=>(i.zero,i.size,i.bytes))=some (some (.agg #[.string ⟨#[]⟩,.string ⟨#[]⟩,.int .i64 0,.int .i64 0]),4,48) by kernel_rfl)
 have q22:∀ (w:World) (a:Option Addr) (n c n' c':Nat),(binOp .eql 217 (.slice a n c) (.slice none n' c')).run Tryz.prog w=.ok (.bool a.isNone) w:=λ w a n c n' c'=>Lib.run_eql_slice_nil w _ 223 a n c n' c' Tryz.underlying217
 go_enter Tryz.func201,Tryz.ntmps201
 go_wp2_with (at_builtin;go_must (refine wpList_append_own _ rfl _ _ 217 rfl w.heap.size 223 i0 _ 4 48 Tryz.underlying217 hi hz0 hz1 hz2 rfl (by decide) _ _ _ rfl (World.ownsRow_made w #[] 0 (Nat.le_refl _) (Nat.zero_le _) rfl) A n c (itemsCs l) rfl ?c0 ?c1 ?c2 ?c3 ?c4 ?c5 ?_))
 case c0 =>
  obtain ⟨_,_,e0,h0,h1,h2⟩:=hv
  simpa using h1
 case c1 =>
  obtain ⟨_,_,e0,h0,h1,h2⟩:=hv
  intro j u hu
  have hj:=(List.getElem?_eq_some_iff.1 hu).1
  obtain ⟨b,o,eA,h4,h5⟩:=h2 (by omega)
  simp only [Value.slice.injEq] at e0
  rw [<- e0.1] at eA
  cases eA
  rw [Addr.add_lit]
  exact Lib.cell?_alloc_some _ (h5 j u hu)
 case c2=>exact itemsCs_one l
 case c3=>unfold maxLen;omega
 case c4=>omega
 case c5=>simp
 intro v' w1 hown hgrow hnil
 go_wp2
 go_ret
 exact ⟨v',rfl,by simpa using hown,((Below.refl _ w).alloc (Nat.le_refl _) _).grown hgrow (by simp) (by intro k hk;simp [Value.ownBlock] at hk;omega)⟩
end Go.Ev
