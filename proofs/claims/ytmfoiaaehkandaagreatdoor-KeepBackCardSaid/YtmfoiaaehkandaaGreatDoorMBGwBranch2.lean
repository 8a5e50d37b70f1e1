/-
  Texts of this claim.
-/
import Derived.Test.YtmfoiaaehkandaaGreatDoorMBGvAppend
import Derived.Test.YtmfoiaaehkandaaGreatDoorMBGwClone
import Derived.Test.YtmfoiaaehkandaaGreatDoorMBGwGet
import Derived.Lib.AppendZerosOnto
import Derived.Shelf.Spec.SlicesInsert
set_option linter.unusedVariables false
set_option linter.unusedSimpArgs false
set_option maxHeartbeats 4000000
set_option maxRecDepth 100000
namespace Go.Ev
open Go.Proofs Go.RowKit
theorem itemCs_one (x:Item):∀ u∈itemCs x,u.oneCell'=true:=by
 intro u h
 simp only [itemCs,List.mem_cons,List.not_mem_nil,or_false] at h
 rcases h with rfl | rfl | rfl | rfl<;>rfl
theorem row_sl {w:World} {g:Nat} {x:Item} (h:BoxI w g x):∀ j u,(itemCs x)[j]? = some u->w.cell? ((⟨g,0,none⟩:Addr).add j)=some u:=by
 intro j u hu
 have e:(⟨g,0,none⟩:Addr).add j=⟨g,j,none⟩:=by cases j<;>simp [Addr.add]
 rw [e,Blk.cell h j]
 simpa [itemCs] using hu
theorem own_nil {w:World} {base:Nat} {e:TypeId} {z:Nat} {A:Option Addr} {n c:Nat} {xs:List Value} (h:w.ownsRow base e z (.slice A n c) n xs):A.isNone=true->n=0:=by
 intro hA
 rcases h.2 with ⟨hv,_⟩ | ⟨g,cap,cur,hv,_⟩
 ·simp only [Value.slice.injEq] at hv;exact hv.2.1
 ·simp only [Value.slice.injEq] at hv;rw [hv.1] at hA;cases hA
/-- At the end. -/
theorem insert_end (base:Nat) (A:Option Addr) (n c:Nat) (l:List Item) (g:Nat) (x:Item) (w:World) (hown:w.ownsRow base 223 4 (.slice A n c) n (itemsCs l)) (hn:n<=100000)
  (hx:BoxI w g x) (hb:base<=w.heap.size) :
  Calls Tryz.prog 202 #[.slice A n c,.int .i64 n,.slice (some ⟨g,0,none⟩) 1 1] w λ e w' =>
   ∃ v',e=.returned v'/\w'.ownsRow base 223 4 v' (n+1) (itemsCs (l++[x]))/\w.grownBy w' (Value.ownBlock (.slice A n c)):=by
 obtain ⟨i0,hi,hz0,hz1,hz2⟩:=info_parts (show (Tryz.prog.info? 223).map (λ i=>(i.zero,i.size,i.bytes))=some (some (.agg #[.string ⟨#[]⟩,.string ⟨#[]⟩,.int .i64 0,.int .i64 0]),4,48) by kernel_rfl)
 go_enter Tryz.func202,Tryz.ntmps202
 have hxs:=row_sl hx
 obtain ⟨A0,c0,e0,hnc,_⟩:=Sl.of_own hown
 cases e0
 have hA:A.isNone=true->n=0:=own_nil hown
 cases A with
 | none =>
  have h0:=hA rfl
  subst h0
  go_wp2_with (at_builtin;go_must (refine wpList_append_own _ rfl _ _ 217 rfl base 223 i0 _ 4 48 Tryz.underlying217 hi hz0 hz1 hz2 rfl (by decide) _ _ _ rfl hown ⟨g,0,none⟩ 1 1 (itemCs x) rfl rfl hxs (itemCs_one x) ?d3 ?d4 hb ?_))
  all_goals first | (unfold maxLen;omega) | omega | skip
  all_goals
   first
    | (intro v' w1 hown' hgrow _;go_wp2;go_ret;exact ⟨v',rfl,by rw [itemsCs_snoc];exact hown',hgrow⟩)
    | skip
 | some a =>
  obtain ⟨ab,ao,asp⟩:=a
  go_wp2_with (at_builtin;go_must (refine wpList_append_own _ rfl _ _ 217 rfl base 223 i0 _ 4 48 Tryz.underlying217 hi hz0 hz1 hz2 rfl (by decide) _ _ _ rfl hown ⟨g,0,none⟩ 1 1 (itemCs x) rfl rfl hxs (itemCs_one x) ?c3 ?c4 hb ?_))
  case c3=>unfold maxLen;omega
  case c4=>omega
  all_goals
   first
    | (intro v' w1 hown' hgrow _;go_wp2;go_ret;exact ⟨v',rfl,by rw [itemsCs_snoc];exact hown',hgrow⟩)
    | skip
theorem itemsCs_take:∀ (l:List Item) (k:Nat),(itemsCs l).take (k*4)=itemsCs (l.take k)
 | [],k=>by simp [itemsCs]
 | x :: l,0=>by simp [itemsCs]
 | x :: l,k+1=>by
  have e:(k+1)*4=(itemCs x).length+k*4:=by show _=4+_;omega
  simp only [itemsCs,List.take_succ_cons,e,List.take_append,Nat.add_sub_cancel_left,itemsCs_take l k]
  rw [List.take_of_length_le (by omega)]
theorem itemsCs_drop:∀ (l:List Item) (k:Nat),(itemsCs l).drop (k*4)=itemsCs (l.drop k)
 | [],k=>by simp [itemsCs]
 | x :: l,0=>by simp [itemsCs]
 | x :: l,k+1=>by
  have e:(k+1)*4=(itemCs x).length+k*4:=by show _=4+_;omega
  simp only [itemsCs,List.drop_succ_cons,e,List.drop_append,Nat.add_sub_cancel_left,itemsCs_drop l k]
  rw [List.drop_of_length_le (by omega)]
  rfl
theorem itemsCs_append:∀ a b:List Item,itemsCs (a++b)=itemsCs a++itemsCs b
 | [],b=>rfl
 | x :: a,b=>by simp only [List.cons_append,itemsCs,itemsCs_append a b,List.append_assoc]
theorem itemsCs_ins (l:List Item) (i:Nat) (x:Item):itemsCs (l.take i++x :: l.drop i)=(itemsCs l).take (i*4)++(itemCs x++(itemsCs l).drop (i*4)):=by
 rw [itemsCs_append,itemsCs_take,itemsCs_drop]
 rfl
def InsPost (base:Nat) (v:Value) (n:Nat) (l:List Item) (w:World) (e:Ending) (w':World):Prop:=
 ∃ v',e=.returned v'/\w'.ownsRow base 223 4 v' n (itemsCs l)/\Keeps (λ k=>v.ownBlock=some k) w w'
theorem insert_any (base:Nat) (A:Option Addr) (n c i:Nat) (l:List Item) (g:Nat) (x:Item) (w:World) (hown:w.ownsRow base 223 4 (.slice A n c) n (itemsCs l)) (hn:n<=100000)
  (hx:BoxI w g x) (hb:base<=w.heap.size) (hi:i<=n) (hne:∀ k,Value.ownBlock (.slice A n c)=some k->k≠g) :
  Calls Tryz.prog 202 #[.slice A n c,.int .i64 i,.slice (some ⟨g,0,none⟩) 1 1] w (InsPost base (.slice A n c) (n+1) (l.take i++x :: l.drop i) w):=by
 have hl:l.length=n:=by have:=hown.1;rw [itemsCs_len] at this;omega
 by_cases hin:i=n
 ·subst hin
  refine (insert_end base A i c l g x w hown hn hx hb).mono λ e w' h=>?_
  obtain ⟨v',h1,h2,h3⟩:=h
  exact ⟨v',h1,by rw [List.take_of_length_le (by omega),List.drop_of_length_le (by omega)];exact h2,(Keeps.refl _ _).grown h3 λ k hk _=>hk⟩
 ·have hlt:i<n:=by omega
  rcases hown.2 with ⟨hv,h0⟩ | ⟨b,cap,cur,hv,hbb,hheap,hnc,hcm,hcs,hcx⟩
  ·omega
  simp only [Value.slice.injEq] at hv
  obtain ⟨rfl,_,rfl⟩:=hv
  have hbg:g≠b:=λ e=>hne b rfl e.symm
  have hcell:∀ j v,(itemsCs l)[j]? = some v->w.cell? ⟨b,j,none⟩=some v:=λ j v h=>by
   rw [cell_of_row w b j cur _ (0,0) hheap]
   rw [<- hcx,List.getElem?_take] at h
   split at h
   ·simpa using h
   ·cases h
  have hcl:(itemsCs l).length=n*4:=hown.1
  have hcell2:∀ j u,(itemCs x)[j]? = some u->w.cell? ⟨g,0+j,none⟩=some u:=λ j u hu=>by
   rw [Nat.zero_add,Blk.cell hx j];simpa [itemCs] using hu
  have hcur:∀ j,j<n*4->cur[j]? = (itemsCs l)[j]?:=λ j hj=>by
   rw [<- hcx,List.getElem?_take,if_pos hj];simp
  by_cases hroom:n+1<=c
  ·refine (insert_shift b n c i g 0 1 1 (itemsCs l) (itemCs x) w hlt (by omega) hroom (by omega) hbg hcl rfl hcell ?_ ?_ hcell2 (itemsCs_one l) (itemCs_one x) 223 223 4 cur.size ?_ ?_ (by omega) ?_ ?_).mono λ e w' h=>?_
   ·intro j hj
    rw [cell_of_row w b j cur _ (0,0) hheap,Array.getElem?_eq_getElem (by omega)]
    rfl
   ·intro j hj
    simp [World.frozen?,hheap]
   ·have:=hx
    unfold BoxI Blk at this
    simp [World.shape?,this]
   ·simp [World.shape?,hheap]
   ·exact Blk.frozen hx 0
   ·exact Blk.frozen hx 4
   ·obtain ⟨he,hw⟩:=h
    subst hw
    obtain ⟨c1,k1,k2,k3,k4,_,_,_,k8⟩:=cells_heap b 223 (0,0) ((itemsCs l).drop (i*4)) ((i+1)*4) w.drew cur hheap
    obtain ⟨c2,m1,m2,m3,m4,_,_,_,m8⟩:=cells_heap b 223 (0,0) (itemCs x) (i*4) _ c1 k1
    refine ⟨_,he,own_of m1 hbb hroom hcm (by omega) (by rw [itemsCs_len,List.length_append,List.length_take,List.length_cons,List.length_drop];omega) λ j hj=>?_,Keeps.setCells (Keeps.setCells (Keeps.refl (λ k=>Value.ownBlock (.slice (some ⟨b,0,none⟩) n c)=some k) w).drew (λ _=>rfl) _ _) (λ _=>rfl) _ _⟩
    rw [itemsCs_ins,ins_cells _ _ (i*4) (n*4) 4 (by omega) hcl rfl,m8 j,k8 j]
    have h4:(itemCs x).length=4:=rfl
    simp only [h4,List.length_drop,hcl]
    by_cases a1:j<i*4
    ·rw [if_neg (by omega),if_neg (by omega),if_pos a1]
     exact hcur j (by omega)
    ·rw [if_neg a1]
     by_cases a2:j<i*4+4
     ·rw [if_pos (by omega),if_pos a2]
     ·rw [if_neg (by omega),if_neg a2,if_pos (by omega),List.getElem?_drop]
      congr 1
      omega
  ·refine (insert_grow b n c i g 0 1 1 (itemsCs l) (itemCs x) w hlt (by omega) hnc (by omega) (by omega) hcl rfl hcell hcell2 (itemsCs_one l) (itemCs_one x)).mono λ e w' h=>?_
   obtain ⟨G,ROW,hG1,hG2,hG3,he,hw⟩:=h
   subst hw
   have hnew:((w.alloc (.cells ROW 223)).drew).heap[w.heap.size]? = some (.cells ROW 223 (0,0)):=heap_alloc_new w _
   obtain ⟨c1,k1,k2,k3,k4,_,_,_,k8⟩:=cells_heap w.heap.size 223 (0,0) (itemCs x) (i*4) _ ROW hnew
   obtain ⟨c2,m1,m2,m3,m4,_,_,_,m8⟩:=cells_heap w.heap.size 223 (0,0) ((itemsCs l).drop (i*4)) ((i+1)*4) (((w.alloc (.cells ROW 223)).drew.setCells w.heap.size (i*4) (itemCs x)).drew) c1 k1
   have hno:∀ S:Nat->Prop,w.heap.size<w.heap.size->S w.heap.size:=λ _ h=>absurd h (Nat.lt_irrefl _)
   have hGm:G<=maxLen:=by unfold maxLen;omega
   have hK:Keeps (λ k=>Value.ownBlock (.slice (some ⟨b,0,none⟩) n c)=some k) w ((((w.alloc (.cells ROW 223)).drew.setCells w.heap.size (i*4) (itemCs x)).drew).setCells w.heap.size ((i+1)*4) ((itemsCs l).drop (i*4))):=
    Keeps.setCells (Keeps.drew (Keeps.setCells (Keeps.drew (Keeps.alloc (Keeps.refl _ w) _)) (hno _) _ _)) (hno _) _ _
   refine ⟨_,he,own_of m1 hb (by omega) hGm (by omega) (by rw [itemsCs_len,List.length_append,List.length_take,List.length_cons,List.length_drop];omega) λ j hj=>?_,hK⟩
   rw [itemsCs_ins,ins_cells _ _ (i*4) (n*4) 4 (by omega) hcl rfl,m8 j,k8 j]
   have h4:(itemCs x).length=4:=rfl
   simp only [h4,List.length_drop,hcl]
   by_cases a1:j<i*4
   ·rw [if_neg (by omega),if_neg (by omega),if_pos a1]
    exact hG3 j a1
   ·rw [if_neg a1]
    by_cases a2:j<i*4+4
    ·rw [if_neg (by omega),if_pos (by omega),if_pos a2]
    ·rw [if_neg a2,if_pos (by omega),List.getElem?_drop]
     have e:i*4+(j-(i+1)*4)=j-4:=by clear hGm hG1;omega
     rw [e]
theorem cloneI_nil (c:Nat) (w:World) :
  Calls Tryz.prog 201 #[.slice none 0 c] w λ e w'=>e=.returned (.slice none 0 0)/\Below w.heap.size w w':=by
 have q22:∀ (w:World) (a:Option Addr) (n c n' c':Nat),(binOp .eql 217 (.slice a n c) (.slice none n' c')).run Tryz.prog w=.ok (.bool a.isNone) w:=λ w a n c n' c'=>Lib.run_eql_slice_nil w _ 223 a n c n' c' Tryz.underlying217
 go_enter Tryz.func201,Tryz.ntmps201
 go_wp2
 go_ret
 exact ⟨rfl,Below.refl _ _⟩
theorem own_base {w:World} {b b':Nat} {e:TypeId} {z:Nat} {v:Value} {n:Nat} {xs:List Value} (h:w.ownsRow b e z v n xs) (hb:b'<=b):w.ownsRow b' e z v n xs:=by
 refine ⟨h.1,h.2.imp id ?_⟩
 rintro ⟨g,cap,cur,hv,h1,h2⟩
 exact ⟨g,cap,cur,hv,Nat.le_trans hb h1,h2⟩
def OwnPost (l:List Item) (w:World) (e:Ending) (w':World):Prop:=∃ v',e=.returned v'/\w'.ownsRow w.heap.size 223 4 v' l.length (itemsCs l)/\Below w.heap.size w w'
theorem cloneI_all (A:Option Addr) (n c:Nat) (l:List Item) (w:World) (hv:Sl w 4 (.slice A n c) n (itemsCs l)) (hn:n<=100000) :
  Calls Tryz.prog 201 #[.slice A n c] w (OwnPost l w):=by
 have hl:=hv.len4
 cases A with
 | none =>
  obtain ⟨A',c',e0,h0,h1,h2⟩:=hv
  cases e0
  have h0:n=0:=by
   by_cases h:0<n
   ·obtain ⟨_,_,e,_⟩:=h2 h;cases e
   ·omega
  subst h0
  have:l=[]:=List.eq_nil_of_length_eq_zero hl
  subst this
  exact (cloneI_nil c w).mono λ e w' ⟨he,hb⟩=>⟨_,he,World.ownsRow_nil _ _ _ _,hb⟩
 | some A=>exact (cloneI_any A n c l w hv hn).mono λ e w' ⟨v',he,ho,hb⟩=>⟨v',he,by rw [hl];exact ho,hb⟩
theorem itemsCs_set:∀ (l:List Item) (i:Nat) (x:Item),i<l.length->((((itemsCs l).set (i*4) (strV x.key)).set (i*4+1) (strV x.val)).set (i*4+2) (.int .i64 x.over)).set (i*4+3) (.int .i64 x.size)=itemsCs (l.take i++x :: l.drop (i+1))
 | y :: l,0,x,_=>by simp [itemsCs,itemCs]
 | y :: l,i+1,x,h=>by
  have ih:=itemsCs_set l i x (by simpa using h)
  have e:∀ j,(i+1)*4+j=(i*4+j)+4:=λ j=>by omega
  have e0:(i+1)*4=(i*4)+4:=by omega
  simp only [itemsCs,itemCs,List.take_succ_cons,List.drop_succ_cons,List.cons_append,e,e0,List.set_cons_succ,List.nil_append,ih]
theorem setI_any (A:Option Addr) (n c:Nat) (l:List Item) (x:Item) (w:World) (hv:Sl w 4 (.slice A n c) n (itemsCs l)) (hn:n<=90000) (hr:riseI l=true) :
  Calls Tryz.prog 148 #[.slice A n c,.agg #[strV x.key,strV x.val,.int .i64 x.over,.int .i64 x.size]] w (OwnPost (setI l x) w):=by
 have hl:=hv.len4
 subst hl
 have hA:=ahead_le x.key l
 have bx0:BoxI (w.alloc (.cells #[strV x.key,strV x.val,.int .i64 x.over,.int .i64 x.size] 223)) w.heap.size x:=Blk.new _ _ _
 obtain ⟨p0,p2,p1,p3⟩:=BoxI.c bx0
 have hv0:=hv.alloc (.cells #[strV x.key,strV x.val,.int .i64 x.over,.int .i64 x.size] 223)
 have hb0:=(Below.refl w.heap.size w).alloc (Nat.le_refl _) (.cells #[strV x.key,strV x.val,.int .i64 x.over,.int .i64 x.size] 223)
 have hF:=Hdz (findI_any A l.length c l x.key _ hv0 (by omega) hr)
 have hC:=Hdz (λ W h=>cloneI_all A l.length c l W h (by omega))
 go_enter Tryz.func148,Tryz.ntmps148
 go_wp2_with (fail)
 go_must (refine hF.out.mono ?_)
 rintro e w1 ⟨rfl,hb1⟩
 go_wp2_with (fail)
 go_must (refine (hC.out _ (hv0.below hb1)).mono ?_)
 rintro e w2 ⟨v2,rfl,hown,hb2⟩
 have hs1:=hb1.size
 have hs2:=hb2.size
 simp at hs1
 have bx2:BoxI w2 w.heap.size x:=Blk.below' (Blk.below' bx0 hb1) hb2
 obtain ⟨r0,r2,r1,r3⟩:=BoxI.c bx2
 have hbw:Below w.heap.size w w2:=hb0.trans ((hb1.mono (by simp)).trans (hb2.mono (by omega)))
 clear p0 p1 p2 p3
 cases hat:isAt x.key l
 ·have hS:=Hdz (show setI l x=l.take (ahead x.key l)++x :: l.drop (ahead x.key l) by simp [setI,hat])
  obtain ⟨A2,c2,e2,_⟩:=Sl.of_own hown
  subst e2
  have hlt1:=λ k hk=>(hown.lt k hk).1
  have hI:=Hdz (λ i g=>insert_any w1.heap.size A2 l.length c2 i l g x)
  have bx3:BoxI (w2.alloc (.cells #[strV x.key,strV x.val,.int .i64 x.over,.int .i64 x.size] 223)) w2.heap.size x:=Blk.new _ _ _
  have hi2:=insert_any w1.heap.size A2 l.length c2 (ahead x.key l) l w2.heap.size x _ (hown.alloc _) (by omega) bx3 (by simp;omega) hA (λ k hk=>by have:=hown.lt k hk;omega)
  have HI2:=Hdz hi2
  clear hi2 hI hown hF hC
  go_wp2_with (fail)
  go_must (refine HI2.out.mono ?_)
  rintro e w3 ⟨v3,rfl,hown3,hK⟩
  go_wp2_with (fail)
  go_ret
  refine ⟨v3,rfl,?_,?_⟩
  ·have e1:(setI l x).length=l.length+1:=by rw [hS.out];simp;omega
   rw [e1,hS.out]
   exact own_base hown3 (by omega)
  ·refine (hbw.alloc (by omega) _).trans (hK.below (by simp;omega) λ k hk he=>?_)
   have:=hlt1 k he
   omega
 ·have hlt:ahead x.key l<l.length:=by
   obtain ⟨y,h1,_⟩:=isAt_iff.1 hat
   exact (List.getElem?_eq_some_iff.1 h1).1
  have hS:=Hdz (show setI l x=l.take (ahead x.key l)++x :: l.drop (ahead x.key l+1) by simp [setI,hat])
  rcases hown.2 with ⟨_,h0⟩ | ⟨g,cap,cur,rfl,hbb,hheap,hnc,hcm,hcs,hcx⟩
  ·omega
  have hX:=Hdz (itemsCs_set l (ahead x.key l) x hlt)
  have hL:(setI l x).length=l.length:=by rw [hS.out];simp;omega
  have HL:=Hdz hL
  clear hL hcx
  generalize ahead x.key l=i at *
  have hci:∀ j,j<4->∃ u,w2.cell? ⟨g,i*4+j,none⟩=some u:=λ j hj=>⟨_,by rw [cell_of_row w2 g _ cur _ (0,0) hheap];exact Array.getElem?_eq_getElem (by omega)⟩
  obtain ⟨u0,d0⟩:=hci 0 (by omega)
  rw [Nat.add_zero] at d0
  obtain ⟨u1,d1⟩:=hci 1 (by omega)
  obtain ⟨u2,d2⟩:=hci 2 (by omega)
  obtain ⟨u3,d3⟩:=hci 3 (by omega)
  have f0:∀ j,w2.frozen? ⟨g,j,none⟩=false:=λ j=>hown.frozenAt j
  have f00:=f0 (i*4)
  have f01:=f0 (i*4+1)
  have f02:=f0 (i*4+2)
  have f03:=f0 (i*4+3)
  have hil:(0:Int)<=(i:Int)/\(i:Int)<(l.length:Int):=by omega
  obtain ⟨hil1,hil2⟩:=hil
  clear hci f0
  obtain ⟨o0,g0⟩:=hown.stored (i*4) (strV x.key)
  obtain ⟨o1,g1⟩:=o0.stored (i*4+1) (strV x.val)
  obtain ⟨o2,g2⟩:=o1.stored (i*4+2) (.int .i64 x.over)
  obtain ⟨o3,g3⟩:=o2.stored (i*4+3) (.int .i64 x.size)
  rw [hX.out] at o3
  have O3:=Hdz o3
  clear o0 o1 o2 o3 g0 g1 g2 g3
  go_wp2_with (fail)
  go_ret
  refine ⟨_,rfl,?_,?_⟩
  ·rw [HL.out,hS.out]
   exact own_base O3.out (by omega)
  ·have hgw:w.heap.size<=g:=by omega
   exact (((hbw.setCell (p:=⟨g,i*4,none⟩) hgw _).setCell (p:=⟨g,i*4+1,none⟩) hgw _).setCell (p:=⟨g,i*4+2,none⟩) hgw _).setCell (p:=⟨g,i*4+3,none⟩) hgw _
theorem ItemsOk.take {l:List Item} (h:ItemsOk l) (i:Nat):ItemsOk (l.take i):=
 ⟨λ x hx=>h.keys x (List.mem_of_mem_take hx),λ x hx=>h.nums x (List.mem_of_mem_take hx),Nat.le_trans (layI_le l i) h.len,by have:=h.few;rw [List.length_take];omega⟩
theorem ItemsOk.drop {l:List Item} (h:ItemsOk l) (i:Nat):ItemsOk (l.drop i):=by
 refine ⟨λ x hx=>h.keys x (List.mem_of_mem_drop hx),λ x hx=>h.nums x (List.mem_of_mem_drop hx),?_,by have:=h.few;rw [List.length_drop];omega⟩
 have:=h.len
 rw [<- List.take_append_drop i l,layI_append,List.length_append] at this
 omega
def SplitPost (l:List Item) (w:World) (e:Ending) (w':World):Prop:=
 ∃ v1 v2,e=.returned (.tuple #[v1,v2])/\w'.ownsRow w.heap.size 223 4 v1 (splitI l).1.length (itemsCs (splitI l).1)/\w'.ownsRow w.heap.size 223 4 v2 (splitI l).2.length (itemsCs (splitI l).2)/\Below w.heap.size w w'
theorem own_below {w w':World} {base:Nat} {e:TypeId} {z:Nat} {v:Value} {n:Nat} {xs:List Value} (h:w.ownsRow base e z v n xs) (hb:Below w.heap.size w w'):w'.ownsRow base e z v n xs:=own_keeps h (Keeps.of_below (S:=λ _=>False) hb) (λ _ _ h=>h)
theorem splitI_any (A:Option Addr) (n c:Nat) (l:List Item) (w:World) (hv:Sl w 4 (.slice A n c) n (itemsCs l)) (ho:ItemsOk l) (hn:n<=90000) :
  Calls Tryz.prog 200 #[.slice A n c] w (SplitPost l w):=by
 have hl:=hv.len4
 subst hl
 by_cases h2:l.length<2
 ·have hC:=Hdz (cloneI_all A _ c l w hv (by omega))
  have hS:=Hdz (show splitI l=(l,[]) by unfold splitI;rw [if_pos h2])
  go_enter Tryz.func200,Tryz.ntmps200
  go_wp2_with (fail)
  go_must (refine hC.out.mono ?_)
  rintro e w1 ⟨v',rfl,hown,hb1⟩
  go_wp2_with (fail)
  go_ret2
  exact ⟨v',_,rfl,by rw [hS.out];exact hown,by rw [hS.out];exact World.ownsRow_nil _ _ _ _,hb1⟩
 ·have hS:=Hdz (show splitI l=(l.take (bestAt (costI l) l.length),l.drop (bestAt (costI l) l.length)) by unfold splitI;rw [if_neg h2])
  have h2':¬ (l.length:Int)<2:=by omega
  obtain ⟨A',c',e0,h0,h1,hA⟩:=id hv
  cases e0
  obtain ⟨blk,off,rfl,hbl,hcell⟩:=hA (by omega)
  clear hA h1 hcell
  have hbest:=Hdz (bestAt_spec (costI l) (show 2<=l.length by omega))
  have hZ1:=Hdz (λ i W h=>sizeI_any (some ⟨blk,off,none⟩) i c (l.take i) W h (ho.take i))
  have hZ2:=Hdz (λ i W h=>sizeI_any (some ⟨blk,off+i*4,none⟩) (l.length-i) (c-i) (l.drop i) W h (ho.drop i))
  go_enter Tryz.func200,Tryz.ntmps200
  go_wp2_with (fail)
  go_loopg [4,5,6] l.length (λ g s4 s5 s6 wr=>∃ best k sz:Nat,s4=.int .i64 best/\s5=.int .i64 sz/\s6=.int .i64 k/\1<=k/\k<=l.length/\l.length-k<=g/\best<k/\(best≠0->sz=costI l best)/\sz<=100000/\Hid (bestFrom (costI l) (l.length-k) k best=bestAt (costI l) l.length)/\Below w.heap.size w wr)
  case atStart=>exact ⟨0,1,0,rfl,rfl,rfl,by omega,by omega,by omega,by omega,by simp,by omega,rfl,Below.refl _ _⟩
  case round =>
   obtain ⟨best,k,sz,rfl,rfl,rfl,hk1,hk2,hg,hbk,hsz,hszb,hI,hb⟩:=hrel
   have hz:=hb.size
   by_cases hlt:k<l.length
   ·have hst:=Hdz (bestFrom_step (costI l) (best:=best) hlt)
    have hvw:=hv.below (hb.mono (Nat.le_refl _))
    have q1:=hZ1.out k _ (by rw [<- itemsCs_take];exact Sl.take hvw.drew (by omega))
    have q2:=λ W (h:Below wr.heap.size wr.drew W)=>hZ2.out k W (by rw [<- itemsCs_drop];exact Sl.drop (Sl.below hvw.drew h) (by omega))
    have Q1:=Hdz q1
    have Q2:=Hdz q2
    clear q1 q2
    have hci1:¬ (c=k):=by omega
    have hkc:k<=c:=by omega
    have hkl:k<=l.length:=by omega
    have hkk:(0:Int)<=(k:Int)/\(k:Int)<=(l.length:Int):=by omega
    obtain ⟨hkk1,hkk2⟩:=hkk
    go_wp2
    refine wRz ?_
    try simp only [lAz]
    refine tA 0 ?_;try simp only [lAz]
    refine tA 1 ?_;try simp only [lAz]
    refine tA 2 ?_;try simp only [lAz]
    refine tA 4 ?_;try simp only [lAz]
    refine tA 5 ?_;try simp only [lAz]
    refine tA 6 ?_;try simp only [lAz]
    refine rZz 3 λ K hK=>?_;go_simp
    (go_must (refine Q1.out.mono ?_);rintro e w1 ⟨rfl,hb1⟩)
    go_simp
    apply hK
    clear hK K
    refine rZz 7 λ K hK=>?_;go_simp
    (go_must (refine (Q2.out _ hb1).mono ?_);rintro e w2 ⟨rfl,hb2⟩)
    go_simp
    apply hK
    clear hK K
    refine rZz 8 λ K hK=>?_;go_simp;apply hK;clear hK K
    refine rZz 9 λ K hK=>?_;go_simp;apply hK;clear hK K
    refine wDz ?_
    have hmx:max ((List.length (layI (List.take k l)):Nat):Int) (List.length (layI (List.drop k l)):Nat)=((costI l k:Nat):Int):=by unfold costI;omega
    have hcb:costI l k<=100000:=by
     have h1:=(ho.take k).len
     have h2:=(ho.drop k).len
     unfold costI
     omega
    rw [hmx]
    have hbw:Below w.heap.size w w2:=hb.drew.trans ((hb1.mono (by simp;omega)).trans (hb2.mono (by have:=hb1.size;simp at this;omega)))
    clear hmx Q1 Q2 hZ1 hZ2
    by_cases hb0:best=0
    ·have e1:((best:Int)==0)=true:=by simp [hb0]
     have hI2:=Hdz (hst.out.symm.trans hI)
     rw [if_pos (.inl hb0)] at hI2
     clear hst hI hsz hb0
     go_wp2
     go_roundg (l.length-(k+1))
     case measure=>omega
     case rel=>exact ⟨k,k+1,costI l k,rfl,rfl,by go_num,by omega,by omega,by omega,by omega,λ _=>rfl,hcb,hI2,hbw⟩
    ·have e1:((best:Int)==0)=false:=by simpa using hb0
     have hs0:=hsz hb0
     by_cases hcl:costI l k<sz
     ·have hI2:=Hdz (hst.out.symm.trans hI)
      rw [if_pos (.inr (by omega))] at hI2
      have hcl':((costI l k:Nat):Int)<(sz:Int):=by omega
      clear hst hI hsz hb0 hs0 hcl
      go_wp2
      go_roundg (l.length-(k+1))
      case measure=>omega
      case rel=>exact ⟨k,k+1,costI l k,rfl,rfl,by go_num,by omega,by omega,by omega,by omega,λ _=>rfl,hcb,hI2,hbw⟩
     ·have hI2:=Hdz (hst.out.symm.trans hI)
      rw [if_neg (by rw [<- hs0];intro h;rcases h with h | h;exact hb0 h;exact hcl h)] at hI2
      have hcl':¬ ((costI l k:Nat):Int)<(sz:Int):=by omega
      have HS0:=Hdz hsz
      clear hst hI hsz hb0 hs0 hcl
      go_wp2
      go_roundg (l.length-(k+1))
      case measure=>omega
      case rel=>exact ⟨best,k+1,sz,rfl,rfl,by go_num,by omega,by omega,by omega,by omega,HS0.out,hszb,hI2,hbw⟩
   ·obtain rfl:k=l.length:=by omega
    have hbe:best=bestAt (costI l) l.length:=(bestFrom_end _ _ _).symm.trans hI.out
    have hbs:=hbest.out
    rw [<- hbe] at hS hbs
    obtain ⟨hb1',hb2',_⟩:=hbs
    clear hbe hI hsz hbest hg
    have hvw:=hv.below hb
    have hC1:=Hdz (cloneI_all (some ⟨blk,off,none⟩) best c (l.take best) wr.drew (by rw [<- itemsCs_take];exact Sl.take hvw.drew (by omega)) (by omega))
    have hC2:=Hdz (λ W (h:Below wr.heap.size wr.drew W)=>cloneI_all (some ⟨blk,off+best*4,none⟩) (l.length-best) (c-best) (l.drop best) W (by rw [<- itemsCs_drop];exact Sl.drop (Sl.below hvw.drew h) (by omega)) (by omega))
    have hci1:¬ (c=best):=by omega
    have hkc:best<=c:=by omega
    have hkl:best<=l.length:=by omega
    clear hZ1 hZ2
    go_wp2
    refine wRz ?_
    try simp only [lAz]
    refine tA 0 ?_;try simp only [lAz]
    refine tA 1 ?_;try simp only [lAz]
    refine tA 2 ?_;try simp only [lAz]
    refine tA 4 ?_;try simp only [lAz]
    refine tA 5 ?_;try simp only [lAz]
    refine tA 6 ?_;try simp only [lAz]
    refine rZz 3 λ K hK=>?_;go_simp
    (go_must (refine hC1.out.mono ?_);rintro e w1 ⟨v1,rfl,hown1,hb1⟩)
    go_simp
    apply hK
    clear hK K
    refine rZz 7 λ K hK=>?_;go_simp
    (go_must (refine (hC2.out _ hb1).mono ?_);rintro e w2 ⟨v2,rfl,hown2,hb2⟩)
    go_simp
    apply hK
    clear hK K
    refine rZz 8 λ K hK=>?_;go_simp;apply hK;clear hK K
    refine rZz 9 λ K hK=>?_;go_simp;apply hK;clear hK K
    refine wDz ?_
    have hz1:=hb1.size
    simp at hz1
    have hbw:Below w.heap.size w w2:=hb.drew.trans ((hb1.mono (by simp;omega)).trans (hb2.mono (by omega)))
    go_wp2
    go_ret2
    exact ⟨v1,v2,rfl,by rw [hS.out];exact own_base (own_below hown1 hb2) (by simp;omega),by rw [hS.out];exact own_base hown2 (by omega),hbw⟩
def childCs (x:Child):List Value:=[strV x.key,.int .i64 x.page]
def childrenCs:List Child->List Value
 | []=>[]
 | x :: l=>childCs x++childrenCs l
theorem childrenCs_len:∀ l:List Child,(childrenCs l).length=l.length*2
 | []=>rfl
 | x :: l=>by
  simp only [childrenCs,List.length_append,childrenCs_len l,List.length_cons]
  show 2+_=_
  omega
theorem childrenCs_at:∀ (l:List Child) (k j:Nat) (hk:k<l.length),j<2->(childrenCs l)[k*2+j]? = (childCs l[k])[j]?
 | x :: l,0,j,hk,hj=>by
  simp only [childrenCs,Nat.zero_mul,Nat.zero_add,List.getElem_cons_zero]
  rw [List.getElem?_append_left (by show j<2;omega)]
 | x :: l,k+1,j,hk,hj=>by
  simp only [childrenCs,List.getElem_cons_succ]
  rw [List.getElem?_append_right (by show 2<=_;omega)]
  have e:(k+1)*2+j-(childCs x).length=k*2+j:=by show (k+1)*2+j-2=_;omega
  rw [e]
  exact childrenCs_at l k j (by simpa using hk) hj
theorem child_cells {w:World} {blk off:Nat} {l:List Child} (hcell:∀ j u,(childrenCs l)[j]? = some u->w.cell? ⟨blk,off+j,none⟩=some u) {k:Nat} (hk:k<l.length):∀ j u,(childCs l[k])[j]? = some u->w.cell? ⟨blk,off+k*2+j,none⟩=some u:=by
 intro j u hu
 have hj:j<2:=(List.getElem?_eq_some_iff.1 hu).1
 rw [Nat.add_assoc]
 exact hcell _ _ ((childrenCs_at l k j hk hj).trans hu)
theorem child_2 {w:World} {blk o:Nat} {x:Child} (h:∀ j u,(childCs x)[j]? = some u->w.cell? ⟨blk,o+j,none⟩=some u) :
  w.cell? ⟨blk,o,none⟩=some (strV x.key)/\w.cell? ⟨blk,o+1,none⟩=some (.int .i64 x.page):=⟨h 0 _ rfl,h 1 _ rfl⟩
theorem childrenCs_snoc (x:Child):∀ l:List Child,childrenCs (l++[x])=childrenCs l++childCs x
 | []=>by simp [childrenCs]
 | y :: l=>by simp only [List.cons_append,childrenCs,childrenCs_snoc x l,List.append_assoc]
theorem childrenCs_append:∀ a b:List Child,childrenCs (a++b)=childrenCs a++childrenCs b
 | [],b=>rfl
 | x :: a,b=>by simp only [List.cons_append,childrenCs,childrenCs_append a b,List.append_assoc]
theorem childrenCs_take:∀ (l:List Child) (k:Nat),(childrenCs l).take (k*2)=childrenCs (l.take k)
 | [],k=>by simp [childrenCs]
 | x :: l,0=>by simp [childrenCs]
 | x :: l,k+1=>by
  have e:(k+1)*2=(childCs x).length+k*2:=by show _=2+_;omega
  simp only [childrenCs,List.take_succ_cons,e,List.take_append,Nat.add_sub_cancel_left,childrenCs_take l k]
  rw [List.take_of_length_le (by omega)]
theorem childrenCs_drop:∀ (l:List Child) (k:Nat),(childrenCs l).drop (k*2)=childrenCs (l.drop k)
 | [],k=>by simp [childrenCs]
 | x :: l,0=>by simp [childrenCs]
 | x :: l,k+1=>by
  have e:(k+1)*2=(childCs x).length+k*2:=by show _=2+_;omega
  simp only [childrenCs,List.drop_succ_cons,e,List.drop_append,Nat.add_sub_cancel_left,childrenCs_drop l k]
  rw [List.drop_of_length_le (by omega)]
  rfl
theorem childrenCs_one:∀ (l:List Child),∀ u∈childrenCs l,u.oneCell'=true
 | [],u,h=>by simp [childrenCs] at h
 | x :: l,u,h=>by
  simp only [childrenCs,List.mem_append] at h
  rcases h with h | h
  ·simp only [childCs,List.mem_cons,List.not_mem_nil,or_false] at h
   rcases h with rfl | rfl<;>rfl
  ·exact childrenCs_one l u h
theorem Sl.len2 {w:World} {A:Option Addr} {n c:Nat} {l:List Child} (h:Sl w 2 (.slice A n c) n (childrenCs l)):l.length=n:=by
 obtain ⟨_,_,e,_,h1,_⟩:=h
 rw [childrenCs_len] at h1
 omega
def BoxC (w:World) (g:Nat) (x:Child):Prop:=Blk w g 291 #[strV x.key,.int .i64 x.page]
theorem BoxC.c {w:World} {g:Nat} {x:Child} (h:BoxC w g x):w.cell? ⟨g,0,none⟩=some (strV x.key)/\w.cell? ⟨g,1,none⟩=some (.int .i64 x.page):=⟨Blk.cell h 0,Blk.cell h 1⟩
theorem var1_at (g:Nat) (x:Int) (W:World) (hg:g<W.heap.size) (hc:W.cell? ⟨g,0,none⟩=some (.int .i64 x)) (hx:I64 x) :
  Calls Tryz.prog 84 #[.slice (some ⟨g,0,none⟩) 1 1] W λ e w'=>e=.returned (strV (varB x))/\Below W.heap.size W w':=by
 refine (vars_any _ 1 1 [x] _ ⟨_,_,rfl,Nat.le_refl _,by simp,λ _=>⟨g,0,rfl,hg,λ j u hu=>?_⟩⟩ (by simp [hx]) (by omega)).mono ?_
 ·match j with
  | 0=>cases hu;exact hc
  | j+1=>simp at hu
 ·rintro e w' ⟨rfl,hb⟩
  exact ⟨by simp [varsB],hb⟩
theorem Blk.new' {w:World} {t:TypeId} {cs:Array Value} {g:Nat} (h:g=w.heap.size):Blk (w.alloc (.cells cs t)) g t cs:=h ▸ Blk.new w t cs
theorem text_b (g:Nat) (s:Bytes) (W:World) (h:Blk W g 9 #[strV s]) (hs:(textB s).length<=100000) :
  Calls Tryz.prog 93 #[.slice (some ⟨g,0,none⟩) 1 1] W λ e w'=>e=.returned (strV (textB s))/\Below W.heap.size W w':=text_at g s W h.lt (h.cell 0) hs
theorem var_b (g:Nat) (x:Int) (W:World) (h:Blk W g 3 #[.int .i64 x]) (hx:I64 x) :
  Calls Tryz.prog 84 #[.slice (some ⟨g,0,none⟩) 1 1] W λ e w'=>e=.returned (strV (varB x))/\Below W.heap.size W w':=var1_at g x W h.lt (h.cell 0) hx
theorem layC_any (A:Option Addr) (n c:Nat) (l:List Child) (w:World) (hv:Sl w 2 (.slice A n c) n (childrenCs l)) (hL:(layC l).length<=100000) (hn:n<=100000) (hI:∀ x∈l,I64 x.page) :
  Calls Tryz.prog 271 #[.slice A n c] w λ e w'=>e=.returned (strV (layC l))/\Below w.heap.size w w':=by
 have hl1:l.length=n:=hv.len2
 go_enter Tryz.func271,Tryz.ntmps271
 go_wp2
 go_loopw [8] (λ i wr=>∃ (k:Nat) (F:Option Nat),k<=n/\i=.int .i64 (k:Int)/\Bd wr w.heap.size w.heap.size F (layC (l.take k))/\Below w.heap.size w wr) (λ i _=>n-(Go.RowKit.intOf i).toNat)
 case atStart=>exact ⟨0,none,by omega,rfl,Bd.new w,(Below.refl _ _).alloc (Nat.le_refl _) _⟩
 case round =>
  obtain ⟨k,F,hk,rfl,hB,hb⟩:=hrel
  have hT:=layC_le l k
  have hz:=hb.size
  by_cases hlt:k<n
  ·obtain ⟨A',c',e0,h0,h1,h2⟩:=hv
   cases e0
   obtain ⟨blk,off,rfl,hbl,hcell⟩:=h2 (by omega)
   have hk':k<l.length:=by omega
   obtain ⟨i0,i1⟩:=child_2 (w:=wr) λ j u hu=>(hb.cell (p:=⟨blk,off+k*2+j,none⟩) hbl).trans (child_cells hcell hk' j u hu)
   have hS:Hid (layC (l.take (k+1))=layC (l.take k)++l[k].lay):=layC_take hk'
   have hT1:=layC_le l (k+1)
   have hI1:=hI l[k] (List.getElem_mem hk')
   have hT2:(layC (l.take k)).length+(l[k].lay).length<=100000:=by
    have:=congrArg List.length hS.out
    simp only [List.length_append] at this
    omega
   clear hcell h2 h1 hl1 hT1 hI
   generalize l[k]=x at *
   have hx0:(textB x.key).length<=100000:=by
    simp only [Child.lay,List.length_append] at hT2
    omega
   have bx0:BoxC (wr.alloc (.cells #[strV x.key,.int .i64 x.page] 291)) wr.heap.size x:=Blk.new _ _ _
   have hgb:wr.heap.size≠w.heap.size:=by have:=hB.lt;omega
   have hx1:(layC (l.take k)).length+((textB x.key).length+(varB x.page).length)<=100000:=by
    simp only [Child.lay,List.length_append] at hT2
    exact hT2
   go_wp2
   obtain ⟨p0,p1⟩:=BoxC.c bx0
   go_region_with (first
    | (go_at_call 93;go_must (refine (text_b _ _ _ (by first | (refine Blk.drew (Blk.new' ?_);simp;done) | (refine Blk.drew (Blk.alloc (Blk.new' ?_) _);simp;done)) hx0).mono ?_);rintro e w1 ⟨rfl,hb1⟩;have hB1:Bd w1 w.heap.size w.heap.size F (layC (l.take k)):=(by first | exact Bd.below ((hB.alloc _).alloc _).drew hb1 | exact Bd.below (((hB.alloc _).alloc _).alloc _).drew hb1);have bx1:BoxC w1 wr.heap.size x:=(by first | exact Blk.below' (Blk.alloc bx0 _).drew hb1 | exact Blk.below' (Blk.alloc (Blk.alloc bx0 _) _).drew hb1);have hbw1:Below w.heap.size w w1:=(by first | (refine (((hb.alloc hz _).alloc ?_ _).drew).trans (hb1.mono ?_)<;>(simp;omega)) | (refine ((((hb.alloc hz _).alloc ?_ _).alloc ?_ _).drew).trans (hb1.mono ?_)<;>(simp;omega)));have hz1:=hbw1.size;have q1:=BoxC.c bx1)
    | (go_at_call 84;go_must (refine (var_b _ _ _ (by first | (refine Blk.new' ?_;simp;done) | (refine Blk.below' (Blk.drew (Blk.new' ?_)) hb1;simp;done) | (refine Blk.below' (Blk.drew (Blk.alloc (Blk.new' ?_) _)) hb1;simp;done)) hI1).mono ?_);rintro e w2 ⟨rfl,hb2⟩;have hB1':Bd w2 w.heap.size w.heap.size F (layC (l.take k)):=(by first | exact Bd.below (hB1.alloc _) hb2 | exact Bd.below hB1 hb2);have hz12:w.heap.size<=w2.heap.size:=(by first | (have h9:=hb2.size;omega) | (have h9:=hb2.size;simp at h9;omega));have hbw2:Below w.heap.size w w2:=(by first | (refine (hbw1.alloc hz1 _).trans (hb2.mono ?_);simp;omega) | exact hbw1.trans (hb2.mono hz1)))
    | (go_at_call 92;go_must (refine (bw_string hB1' _ (by simp;omega) hz12).mono ?_);rintro e w3 ⟨rfl,⟨F2,hB2⟩,K2⟩;have hbw3:=hbw2.trans (hB1'.below_of K2 hz12)))
   all_goals
    go_wp2
    go_roundw
    case rel =>
     refine ⟨k+1,F2,by omega,by go_num,?_,hbw3⟩
     rw [hS.out]
     unfold Child.lay
     exact hB2
    case measure=>simp [Go.RowKit.intOf];omega
  ·have hkn:k=n:=by omega
   subst hkn
   have ht:l.take k=l:=List.take_of_length_le (by omega)
   rw [ht] at hB
   clear hv ht hl1
   go_wp2_with (go_at_call 94;refine (bw_text hB).mono ?_;rintro e w1 ⟨rfl,hb1⟩)
   go_ret
   exact ⟨rfl,hb.trans hb1⟩
theorem rightC_any (A:Option Addr) (n c:Nat) (l:List Child) (w:World) (hv:Sl w 2 (.slice A n c) n (childrenCs l)) (hn:n<=100000) (hK:∀ x∈l,x.key.length<=9223372036854775807) :
  Calls Tryz.prog 270 #[.slice A n c] w λ e w'=>e=.returned (.bool (rightC l))/\Below w.heap.size w w':=by
 have hl1:=hv.len2
 subst hl1
 go_enter Tryz.func270,Tryz.ntmps270
 go_wp2
 go_loopw [7] (λ i wr=>∃ (k:Nat),k<=l.length/\i=.int .i64 (k:Int)/\Hid (∀ i (h:i<l.length),i<k->stepC l i h=true)/\Below w.heap.size w wr) (λ i _=>l.length-(Go.RowKit.intOf i).toNat)
 case atStart=>exact ⟨0,by omega,rfl,λ i h hk=>absurd hk (by omega),Below.refl _ _⟩
 case round =>
  obtain ⟨k,hk,rfl,hR,hb⟩:=hrel
  have hz:=hb.size
  by_cases hlt:k<l.length
  ·obtain ⟨A',c',e0,h0,h1,h2⟩:=hv
   cases e0
   obtain ⟨blk,off,rfl,hbl,hcell⟩:=h2 (by omega)
   obtain ⟨i0,i1⟩:=child_2 (w:=wr) λ j u hu=>(hb.cell (p:=⟨blk,off+k*2+j,none⟩) hbl).trans (child_cells hcell hlt j u hu)
   have hx1:=hK l[k] (List.getElem_mem hlt)
   have hF:=Hdz (λ h=>rightC_not (l:=l) (k:=k) hlt h)
   have hS:Hid (stepC l k hlt=true->∀ i (h:i<l.length),i<k+1->stepC l i h=true):=by
    intro hs i hi hik
    by_cases e:i=k
    ·subst e;exact hs
    ·exact hR.out i hi (by omega)
   have hfit:=Hdz (@Child.fit_iff l[k])
   have hE:=Hdz (show stepC l k hlt=(l[k].fit && if k=0 then l[k].key.isEmpty else lessB (l.getD (k-1) default).key l[k].key) from rfl)
   have hBB:Below w.heap.size w (wr.alloc (.cells #[strV l[k].key,.int .i64 l[k].page] 291)):=hb.alloc hz _
   have hfalse:∀ (b:Bool),b=false->b=false:=λ _ h=>h
   by_cases c1:l[k].page<2
   ·have hD:=Hdz (hF.out (by rw [hE.out,show l[k].fit=false from by cases h:l[k].fit;rfl;have:=hfit.out.1 h;omega];rfl))
    clear hS hF hE hfit hR hcell h2 h1 hK
    generalize stepC l k hlt=skx at *
    generalize l[k]=x at *
    go_wp2
    go_ret
    exact ⟨(ret_b hD.out).symm,hBB⟩
   ·by_cases c2:4294967295<l[k].page
    ·have hD:=Hdz (hF.out (by rw [hE.out,show l[k].fit=false from by cases h:l[k].fit;rfl;have:=hfit.out.1 h;omega];rfl))
     clear hS hF hE hfit hR hcell h2 h1 hK
     generalize stepC l k hlt=skx at *
     generalize l[k]=x at *
     go_wp2
     go_ret
     exact ⟨(ret_b hD.out).symm,hBB⟩
    ·by_cases c3:40<l[k].key.length
     ·have hD:=Hdz (hF.out (by rw [hE.out,show l[k].fit=false from by cases h:l[k].fit;rfl;have:=hfit.out.1 h;omega];rfl))
      have c3':(40:Int)<(l[k].key.length:Int):=by omega
      clear hS hF hE hfit hR hcell h2 h1 hK
      generalize stepC l k hlt=skx at *
      generalize l[k]=x at *
      go_wp2
      go_ret
      exact ⟨(ret_b hD.out).symm,hBB⟩
     ·have hft:l[k].fit=true:=hfit.out.2 ⟨by omega,by omega,by omega⟩
      have c3':¬ (40:Int)<(l[k].key.length:Int):=by omega
      by_cases hk0:k=0
      ·subst hk0
       have hE2:=Hdz (hE.out.trans (by rw [hft,if_pos rfl,Bool.true_and]))
       clear hE hft hfit
       simp only [Nat.zero_mul,Nat.add_zero] at i0 i1
       generalize stepC l 0 hlt=skx at *
       generalize l[0]=x at *
       cases hke:x.key.isEmpty
       ·have hD:=Hdz (hF.out (hE2.out.trans hke))
        have hk9:(!x.key.isEmpty)=true:=by simp [hke]
        clear hS hF hE2 hR hcell h2 h1 hK
        go_wp2
        go_ret
        exact ⟨(ret_b hD.out).symm,hBB⟩
       ·have hD:=Hdz (hS.out (hE2.out.trans hke))
        have hk9:(!x.key.isEmpty)=false:=by simp [hke]
        clear hS hF hE2 hR hcell h2 h1 hK
        go_wp2
        refine wRz ?_
        refine rZz 0 λ K hK=>?_;go_simp;apply hK;clear hK K
        refine rZz 1 λ K hK=>?_;go_simp;apply hK;clear hK K
        refine rZz 2 λ K hK=>?_;go_simp;apply hK;clear hK K
        try simp only [lAz]
        refine sA 3 ?_;try simp only [lAz]
        refine sA 4 ?_;try simp only [lAz]
        refine sA 5 ?_;try simp only [lAz]
        refine sA 6 ?_;try simp only [lAz]
        refine sA 7 ?_;try simp only [lAz]
        refine sA 8 ?_;try simp only [lAz]
        refine sA 9 ?_;try simp only [lAz]
        refine sA 10 ?_;try simp only [lAz]
        refine sA 11 ?_;try simp only [lAz]
        refine rZz 12 λ K hK=>?_;go_simp;apply hK;clear hK K
        refine rZz 13 λ K hK=>?_;go_simp;apply hK;clear hK K
        refine wDz ?_
        go_wp2
        go_roundw
        case rel=>exact ⟨1,by omega,by go_num,hD,hBB.drew⟩
        case measure=>simp [Go.RowKit.intOf];omega
      ·obtain ⟨j,rfl⟩:∃ j,k=j+1:=⟨k-1,by omega⟩
       have hj:j<l.length:=by omega
       have hE2:=Hdz (hE.out.trans (by rw [hft,if_neg hk0,Bool.true_and]))
       have hgd:l.getD (j+1-1) default=l[j]:=by rw [Nat.add_sub_cancel,List.getD_eq_getElem?_getD,List.getElem?_eq_getElem hj];rfl
       rw [hgd] at hE2
       obtain ⟨j0,_⟩:=child_2 (w:=wr) λ i u hu=>(hb.cell (p:=⟨blk,off+j*2+i,none⟩) hbl).trans (child_cells hcell hj i u hu)
       have hlj:(0:Int)<=(j:Int)/\(j:Int)<(l.length:Int):=by omega
       obtain ⟨hlj1,hlj2⟩:=hlj
       have hw:IntKind.i64.wrap (j:Int)=(j:Int):=IntWalk.i64_in _ (by omega)
       clear hE hft hfit hgd
       generalize stepC l (j+1) hlt=skx at *
       generalize l[j+1]=x at *
       generalize l[j]=y at *
       have bx0:BoxC (wr.alloc (.cells #[strV x.key,.int .i64 x.page] 291)) wr.heap.size x:=Blk.new _ _ _
       have j1:(wr.alloc (.cells #[strV x.key,.int .i64 x.page] 291)).cell? ⟨blk,off+j*2,none⟩=some (strV y.key):=(World.cell?_alloc_past _ _ _ (by omega)).trans j0
       cases hq:lessB y.key x.key
       ·have hD:=Hdz (hF.out (hE2.out.trans hq))
        have hor:lessB x.key y.key=true\/(lessB x.key y.key=false/\(x.key==y.key)=true):=by
         rcases lessB_total x.key y.key with h | h | h
         ·exact .inl h
         ·exact .inr ⟨by rw [h];exact lessB_irrefl _,by simp [h]⟩
         ·rw [hq] at h;cases h
        clear hS hF hE2 hR hcell h2 h1 hK hq
        obtain ⟨p0,p1⟩:=BoxC.c bx0
        rcases hor with hq1 | ⟨hq1,hq2⟩
        all_goals
         go_wp2
         refine wRz ?_
         refine rZz 0 λ K hK=>?_;go_simp;apply hK;clear hK K
         refine rZz 1 λ K hK=>?_;go_simp;apply hK;clear hK K
         refine rZz 2 λ K hK=>?_;go_simp;apply hK;clear hK K
         try simp only [lAz]
         refine tA 3 ?_;try simp only [lAz]
         refine tA 5 ?_;try simp only [lAz]
         refine tA 6 ?_;try simp only [lAz]
         refine tA 7 ?_;try simp only [lAz]
         refine tA 8 ?_;try simp only [lAz]
         refine tA 9 ?_;try simp only [lAz]
         refine wpAny_ready (rs:=[4,10]) (by kernel_rfl) (by simp) (aCz (λ K hK=>?_) (aCz (λ K hK=>?_) AllReady.nil))
        all_goals go_simp
        all_goals (apply hK;clear hK K)
        ·skip
         refine rZz 10 λ K hK=>?_;go_simp;apply hK;clear hK K
         refine rZz 11 λ K hK=>?_;go_simp;apply hK;clear hK K
         refine rZz 12 λ K hK=>?_;go_simp;apply hK;clear hK K
         refine rZz 13 λ K hK=>?_;go_simp;apply hK;clear hK K
         refine wDz ?_
         go_wp2
         go_ret
         exact ⟨(ret_b hD.out).symm,hBB.drew⟩
        ·skip
         refine rZz 4 λ K hK=>?_;go_simp;apply hK;clear hK K
         refine rZz 11 λ K hK=>?_;go_simp;apply hK;clear hK K
         refine rZz 12 λ K hK=>?_;go_simp;apply hK;clear hK K
         refine rZz 13 λ K hK=>?_;go_simp;apply hK;clear hK K
         refine wDz ?_
         go_wp2
         go_ret
         exact ⟨(ret_b hD.out).symm,hBB.drew⟩
        ·skip
         refine rZz 10 λ K hK=>?_;go_simp;apply hK;clear hK K
         refine rZz 11 λ K hK=>?_;go_simp;apply hK;clear hK K
         refine rZz 12 λ K hK=>?_;go_simp;apply hK;clear hK K
         refine rZz 13 λ K hK=>?_;go_simp;apply hK;clear hK K
         refine wDz ?_
         go_wp2
         go_ret
         exact ⟨(ret_b hD.out).symm,hBB.drew⟩
        ·skip
         refine rZz 4 λ K hK=>?_;go_simp;apply hK;clear hK K
         refine rZz 11 λ K hK=>?_;go_simp;apply hK;clear hK K
         refine rZz 12 λ K hK=>?_;go_simp;apply hK;clear hK K
         refine rZz 13 λ K hK=>?_;go_simp;apply hK;clear hK K
         refine wDz ?_
         go_wp2
         go_ret
         exact ⟨(ret_b hD.out).symm,hBB.drew⟩
       ·have hD:=Hdz (hS.out (hE2.out.trans hq))
        have hq1:=lessB_asymm hq
        have hq2:(x.key==y.key)=false:=by simpa using λ e=>lessB_ne hq e.symm
        clear hS hF hE2 hR hcell h2 h1 hK
        go_wp2
        obtain ⟨p0,p1⟩:=BoxC.c bx0
        refine wRz ?_
        refine rZz 0 λ K hK=>?_;go_simp;apply hK;clear hK K
        refine rZz 1 λ K hK=>?_;go_simp;apply hK;clear hK K
        refine rZz 2 λ K hK=>?_;go_simp;apply hK;clear hK K
        try simp only [lAz]
        refine tA 3 ?_;try simp only [lAz]
        refine tA 5 ?_;try simp only [lAz]
        refine tA 6 ?_;try simp only [lAz]
        refine tA 7 ?_;try simp only [lAz]
        refine tA 8 ?_;try simp only [lAz]
        refine tA 9 ?_;try simp only [lAz]
        refine wpAny_ready (rs:=[4,10]) (by kernel_rfl) (by simp) (aCz (λ K hK=>?_) (aCz (λ K hK=>?_) AllReady.nil))
        ·go_simp
         apply hK
         clear hK K
         refine rZz 10 λ K hK=>?_;go_simp;apply hK;clear hK K
         refine rZz 11 λ K hK=>?_;go_simp;apply hK;clear hK K
         refine rZz 12 λ K hK=>?_;go_simp;apply hK;clear hK K
         refine rZz 13 λ K hK=>?_;go_simp;apply hK;clear hK K
         refine wDz ?_
         go_wp2
         go_roundw
         case rel=>exact ⟨j+1+1,by omega,by go_num,hD,hBB.drew⟩
         case measure=>simp [Go.RowKit.intOf];omega
        ·go_simp
         apply hK
         clear hK K
         refine rZz 4 λ K hK=>?_;go_simp;apply hK;clear hK K
         refine rZz 11 λ K hK=>?_;go_simp;apply hK;clear hK K
         refine rZz 12 λ K hK=>?_;go_simp;apply hK;clear hK K
         refine rZz 13 λ K hK=>?_;go_simp;apply hK;clear hK K
         refine wDz ?_
         go_wp2
         go_roundw
         case rel=>exact ⟨j+1+1,by omega,by go_num,hD,hBB.drew⟩
         case measure=>simp [Go.RowKit.intOf];omega
  ·obtain rfl:k=l.length:=by omega
   by_cases h0:l=[]
   ·subst h0
    clear hR hlt
    go_wp2
    go_ret
    exact ⟨rfl,hb⟩
   ·have hr:=Hdz (rightC_iff.2 ⟨h0,λ i h=>hR.out i h h⟩)
    have hpos:decide (0<l.length)=true:=by simpa using List.length_pos_iff.2 h0
    clear hR h0 hv
    go_wp2
    go_ret
    exact ⟨(ret_b hr.out).symm,hb⟩
end Go.Ev
