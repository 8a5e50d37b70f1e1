/-
  Texts of this claim.
-/
import Derived.Test.YtmfoiaaehkandaaGreatDoorMOGwCurs4
import Derived.Test.YtmfoiaaehkandaaGreatDoorMOGwUnfix4
import Derived.Test.YtmfoiaaehkandaaGreatDoorMOGwUpL
set_option linter.unusedVariables false
set_option linter.unusedSimpArgs false
set_option maxHeartbeats 4000000
set_option maxRecDepth 100000
namespace Go.Ev
structure Ses where
 who:Int
 seq:Int
 err:Int
 num:Int
 val:List UInt8
def layS (x:Ses):List UInt8:=varsB [x.who,x.seq,x.err,x.num]++textsB [x.val]
def nextK:List UInt8:=[110,101,120,116]
def sesP (l:List (Nat × Ses)):List Pair:=l.map λ x=>(dig 8 x.1,layS x.2)
def ssP (n:Nat) (l:List (Nat × Ses)):List Pair:=sesP l++(if n=0 then [] else [(nextK,varsB [(n:Int)])])
def getS (id:Nat):List (Nat × Ses)->Option Ses
 | []=>none
 | x :: l=>if x.1=id then some x.2 else getS id l
def setS (id:Nat) (s:Ses):List (Nat × Ses)->List (Nat × Ses)
 | []=>[]
 | x :: l=>if x.1=id then (id,s) :: l else x :: setS id s l
def delS (id:Nat):List (Nat × Ses)->List (Nat × Ses)
 | []=>[]
 | x :: l=>if x.1=id then l else x :: delS id l
def SesOk (n:Nat) (l:List (Nat × Ses)):Prop:=(∀ x∈l,1<=x.1/\x.1<=n)/\(l.map (·.1)).Pairwise (· < ·)/\n<=99999999
theorem dig_next (i:Nat):lessB (dig 8 i) nextK=true:=by
 obtain ⟨c,r,h⟩:∃ c r,dig 8 i=c :: r:=by
  cases h:dig 8 i with
  | nil=>have:=dig_len 8 i;rw [h] at this;simp at this
  | cons c r=>exact ⟨c,r,rfl⟩
 have hc:=(dig_mem (k:=8) (n:=i) (c:=c) (by rw [h];exact List.mem_cons_self ..)).2
 rw [h]
 have:c<110:=by rw [UInt8.lt_iff_toNat_lt];exact Nat.lt_of_le_of_lt hc (by decide)
 simp [lessB,nextK,Op.bytesLess,this]
theorem dig8_ne {a b:Nat} (ha:a<=99999999) (hb:b<=99999999) (h:a≠b):dig 8 a≠dig 8 b:=λ e=>h (dig_inj (k:=8) (by omega) (by omega) e)
theorem SesOk.tail {n:Nat} {x:Nat × Ses} {l:List (Nat × Ses)} (h:SesOk n (x :: l)):(1<=x.1/\x.1<=n)/\(∀ y∈l,x.1<y.1)/\SesOk n l:=by
 obtain ⟨h1,h2,h3⟩:=h
 rw [List.map_cons,List.pairwise_cons] at h2
 exact ⟨h1 x (List.mem_cons_self ..),λ y hy=>h2.1 _ (List.mem_map_of_mem hy),λ y hy=>h1 y (List.mem_cons_of_mem _ hy),h2.2,h3⟩
theorem ssP_cons (n:Nat) (x:Nat × Ses) (l:List (Nat × Ses)):ssP n (x :: l)=(dig 8 x.1,layS x.2) :: ssP n l:=rfl
theorem ss_get {n id:Nat} (hid:id<=99999999):∀ {l:List (Nat × Ses)},SesOk n l->getP (dig 8 id) (ssP n l)=(getS id l).map layS
 | [],_=>by
  simp only [ssP,sesP,List.map_nil,List.nil_append,getS]
  split
  ·rfl
  ·simp only [getP]
   rw [if_neg (lessB_ne (dig_next id)).symm]
   rfl
 | x :: l,h=>by
  obtain ⟨h1,h2,h3⟩:=h.tail
  rw [ssP_cons]
  simp only [getP,getS]
  by_cases e:x.1=id
  ·rw [e,if_pos rfl,if_pos rfl]
   rfl
  ·rw [if_neg (dig8_ne (by have:=h.2.2;omega) hid e),if_neg e,ss_get hid h3]
theorem ss_next {n:Nat}:∀ {l:List (Nat × Ses)},getP nextK (ssP n l)=if n=0 then none else some (varsB [(n:Int)])
 | []=>by
  simp only [ssP,sesP,List.map_nil,List.nil_append]
  split
  ·rfl
  ·simp [getP]
 | x :: l=>by
  rw [ssP_cons]
  simp only [getP]
  rw [if_neg (lessB_ne (dig_next x.1)),ss_next]
theorem ss_putNext {n m:Nat} (hm:m≠0):∀ {l:List (Nat × Ses)},insP nextK (varsB [(m:Int)]) (ssP n l)=ssP m l
 | []=>by
  simp only [ssP,sesP,List.map_nil,List.nil_append]
  rw [if_neg hm]
  split
  ·rfl
  ·simp [insP,lessB_irrefl]
 | x :: l=>by
  rw [ssP_cons,ssP_cons]
  simp only [insP]
  rw [if_pos (dig_next x.1),ss_putNext hm]
theorem ss_putNew {n id:Nat} {s:Ses} (hn:n≠0) (hid:id<=99999999):∀ {l:List (Nat × Ses)},(∀ x∈l,x.1<id)->insP (dig 8 id) (layS s) (ssP n l)=ssP n (l++[(id,s)])
 | [],_=>by
  simp only [ssP,sesP,List.map_nil,List.nil_append,List.map_cons,List.cons_append]
  rw [if_neg hn]
  simp only [insP]
  rw [if_neg (by rw [lessB_asymm (dig_next id)];simp),if_pos (dig_next id)]
 | x :: l,h=>by
  rw [List.cons_append,ssP_cons,ssP_cons]
  simp only [insP]
  rw [if_pos (dig_less (h x (List.mem_cons_self ..)) (by omega)),ss_putNew hn hid λ y hy=>h y (List.mem_cons_of_mem _ hy)]
theorem ss_put {n id:Nat} {s:Ses} (hid:id<=99999999):∀ {l:List (Nat × Ses)},SesOk n l->getS id l≠none->insP (dig 8 id) (layS s) (ssP n l)=ssP n (setS id s l)
 | [],_,hg=>absurd rfl hg
 | x :: l,h,hg=>by
  obtain ⟨h1,h2,h3⟩:=h.tail
  rw [ssP_cons]
  simp only [insP,setS]
  by_cases e:x.1=id
  ·rw [e,if_neg (by rw [lessB_irrefl];simp),if_neg (by rw [lessB_irrefl];simp),if_pos rfl]
   rfl
  ·simp only [getS] at hg
   rw [if_neg e] at hg
   have hlt:x.1<id:=by
    have:∃ y∈l,y.1=id:=by
     clear h h1 h2 h3 e
     induction l with
     | nil=>exact absurd rfl hg
     | cons y l ih =>
      simp only [getS] at hg
      by_cases e:y.1=id
      ·exact ⟨y,List.mem_cons_self ..,e⟩
      ·rw [if_neg e] at hg
       obtain ⟨z,hz,e⟩:=ih hg
       exact ⟨z,List.mem_cons_of_mem _ hz,e⟩
    obtain ⟨y,hy,rfl⟩:=this
    exact h2 y hy
   rw [if_pos (dig_less hlt (by omega)),if_neg e,ssP_cons,ss_put hid h3 hg]
theorem ss_del {n id:Nat} (hid:id<=99999999):∀ {l:List (Nat × Ses)},SesOk n l->delP (dig 8 id) (ssP n l)=ssP n (delS id l)
 | [],_=>by
  simp only [ssP,sesP,List.map_nil,List.nil_append,delS]
  split
  ·rfl
  ·simp only [delP]
   rw [if_neg (lessB_ne (dig_next id)).symm]
 | x :: l,h=>by
  obtain ⟨h1,h2,h3⟩:=h.tail
  rw [ssP_cons]
  simp only [delP,delS]
  by_cases e:x.1=id
  ·rw [e,if_pos rfl,if_pos rfl]
  ·rw [if_neg (dig8_ne (by have:=h.2.2;omega) hid e),if_neg e,ssP_cons,ss_del hid h3]
theorem delS_mem {id:Nat} {y:Nat × Ses}:∀ {l:List (Nat × Ses)},y∈delS id l->y∈l
 | x :: l,h=>by
  simp only [delS] at h
  split at h
  ·exact List.mem_cons_of_mem _ h
  ·rcases List.mem_cons.1 h with rfl | h
   ·exact List.mem_cons_self ..
   ·exact List.mem_cons_of_mem _ (delS_mem h)
theorem SesOk.del {n id:Nat}:∀ {l:List (Nat × Ses)},SesOk n l->SesOk n (delS id l)
 | [],h=>h
 | x :: l,h=>by
  obtain ⟨h1,h2,h3⟩:=h.tail
  simp only [delS]
  split
  ·exact h3
  ·obtain ⟨a,b,c⟩:=h3.del (id:=id)
   exact ⟨λ y hy=>by
    rcases List.mem_cons.1 hy with rfl | hy
    ·exact h1
    ·exact a y hy,by
    rw [List.map_cons,List.pairwise_cons]
    exact ⟨λ i hi=>by obtain ⟨y,hy,rfl⟩:=List.mem_map.1 hi;exact h2 y (delS_mem hy),b⟩,c⟩
theorem setS_ids {id:Nat} {s:Ses}:∀ (l:List (Nat × Ses)),(setS id s l).map (·.1)=l.map (·.1)
 | []=>rfl
 | x :: l=>by
  simp only [setS]
  split
  ·rename_i e
   rw [List.map_cons,List.map_cons,e]
  ·rw [List.map_cons,List.map_cons,setS_ids l]
theorem SesOk.set {n id:Nat} {s:Ses} {l:List (Nat × Ses)} (h:SesOk n l):SesOk n (setS id s l):=by
 obtain ⟨a,b,c⟩:=h
 refine ⟨λ y hy=>?_,by rw [setS_ids];exact b,c⟩
 have:y.1∈(setS id s l).map (·.1):=List.mem_map_of_mem hy
 rw [setS_ids] at this
 obtain ⟨z,hz,e⟩:=List.mem_map.1 this
 rw [<- e]
 exact a z hz
theorem SesOk.new {n:Nat} {s:Ses} {l:List (Nat × Ses)} (h:SesOk n l) (hn:n+1<=99999999):SesOk (n+1) (l++[(n+1,s)]):=by
 obtain ⟨a,b,c⟩:=h
 refine ⟨λ y hy=>?_,?_,hn⟩
 ·rcases List.mem_append.1 hy with hy | hy
  ·have:=a y hy;omega
  ·rw [List.mem_singleton] at hy
   subst hy
   exact ⟨Nat.le_add_left _ _,Nat.le_refl _⟩
 ·rw [List.map_append,List.pairwise_append]
  refine ⟨b,by simp,λ i hi j hj=>?_⟩
  obtain ⟨y,hy,rfl⟩:=List.mem_map.1 hi
  simp only [List.map_cons,List.map_nil,List.mem_singleton] at hj
  have:=a y hy
  omega
theorem ssP_len (n:Nat) (l:List (Nat × Ses)):(ssP n l).length<=l.length+1:=by
 unfold ssP sesP
 split
 ·simp
 ·simp
open Go.Proofs Go.RowKit
abbrev sesV (x:Ses):Value:=.agg #[.int .i64 x.who,.int .i64 x.seq,.int .i64 x.err,strV x.val,.int .i64 x.num]
abbrev repV (x:Ses):Value:=.agg #[.int .i64 x.err,strV x.val,.int .i64 x.num]
def SesGood (x:Ses):Prop:=I64 x.who/\I64 x.seq/\I64 x.err/\I64 x.num/\x.val.length<=2000
theorem layS_len {x:Ses} (h:SesGood x):(layS x).length<=2060/\(layS x).length<=x.val.length+60:=by
 obtain ⟨h1,h2,h3,h4,h5⟩:=h
 have e1:=varsB_len [x.who,x.seq,x.err,x.num] (by
  intro y hy
  simp only [List.mem_cons,List.not_mem_nil,or_false] at hy
  rcases hy with rfl | rfl | rfl | rfl<;>assumption)
 have e2:=(varB_len (x.val.length:Int) ⟨by omega,by omega⟩).2
 simp only [List.length_cons,List.length_nil] at e1
 unfold layS
 simp only [textsB,textB,List.length_append,List.length_nil]
 omega
theorem sl_blk {W:World} {g:Nat} {T:TypeId} (l:List Value) (h:Blk W g T l.toArray):Sl W 1 (.slice (some ⟨g,0,none⟩) l.length l.length) l.length l:=
 ⟨_,_,rfl,Nat.le_refl _,by omega,λ _=>⟨_,_,rfl,h.lt,λ j u hu=>by
  rw [Nat.zero_add,h.cell j]
  simpa using hu⟩⟩
theorem cat_bytes (a b:Bytes):(⟨a.toArray⟩:ByteArray)++⟨b.toArray⟩=⟨(a++b).toArray⟩:=by
 apply ByteArray.ext
 simp
theorem lay_ok (x:Ses) (w:World) (h:SesGood x) :
  Calls Tryz.prog 110 #[sesV x] w λ e w'=>e=.returned (strV (layS x))/\Below w.heap.size w w':=by
 obtain ⟨h1,h2,h3,h4,h5⟩:=h
 have hT0:(textsB [x.val]).length<=100000:=by
  have e2:=(varB_len (x.val.length:Int) ⟨by omega,by omega⟩).2
  simp only [textsB,textB,List.length_append,List.length_nil]
  omega
 have hV0:(varsB [x.who,x.seq,x.err,x.num]).length<=100000:=by
  have:=varsB_len [x.who,x.seq,x.err,x.num] (by
   intro y hy
   simp only [List.mem_cons,List.not_mem_nil,or_false] at hy
   rcases hy with rfl | rfl | rfl | rfl<;>assumption)
  simp only [List.length_cons,List.length_nil] at this
  omega
 have HV:Hid (∀ W g,Sl W 1 (.slice (some ⟨g,0,none⟩) 4 4) 4 [.int .i64 x.who,.int .i64 x.seq,.int .i64 x.err,.int .i64 x.num]->Calls Tryz.prog 84 #[.slice (some ⟨g,0,none⟩) 4 4] W λ e w'=>e=.returned (strV (varsB [x.who,x.seq,x.err,x.num]))/\Below W.heap.size W w'):=λ W g hs=>vars_any _ 4 4 _ W hs (by
  intro y hy
  simp only [List.mem_cons,List.not_mem_nil,or_false] at hy
  rcases hy with rfl | rfl | rfl | rfl<;>assumption) (by omega)
 have HT:Hid (∀ W g,Sl W 1 (.slice (some ⟨g,0,none⟩) 1 1) 1 [strV x.val]->Calls Tryz.prog 93 #[.slice (some ⟨g,0,none⟩) 1 1] W λ e w'=>e=.returned (strV (textsB [x.val]))/\Below W.heap.size W w'):=λ W g hs=>texts_any _ 1 1 _ W hs hT0 (by omega)
 obtain ⟨vb,hvb⟩:=nmz (varsB [x.who,x.seq,x.err,x.num])
 obtain ⟨tb,htb⟩:=nmz (textsB [x.val])
 rw [hvb] at HV
 rw [htb] at HT
 have HL:Hid (layS x=vb++tb):=by show layS x=_;rw [<- hvb,<- htb];rfl
 have l2:tb.length<=100000:=by rw [<- htb];exact hT0
 have l1:vb.length<=100000:=by rw [<- hvb];exact hV0
 have l3:¬ 9223372036854775807<vb.length+tb.length:=by omega
 clear hvb htb hT0 hV0
 have b0:Blk (w.alloc (.cells #[.int .i64 x.who,.int .i64 x.seq,.int .i64 x.err,strV x.val,.int .i64 x.num] 187)) w.heap.size 187 #[.int .i64 x.who,.int .i64 x.seq,.int .i64 x.err,strV x.val,.int .i64 x.num]:=Blk.new _ _ _
 have c0:=b0.cell 0
 have c1:=b0.cell 1
 have c2:=b0.cell 2
 have c3:=b0.cell 3
 have c4:=b0.cell 4
 clear b0 h1 h2 h3 h4 h5
 go_enter Tryz.func110,Tryz.ntmps110
 go_wp2_with (fail)
 refine wRz ?_
 try simp only [lAz]
 refine tA 0 ?_;try simp only [lAz]
 refine tA 2 ?_;try simp only [lAz]
 refine tA 4 ?_;try simp only [lAz]
 refine tA 5 ?_;try simp only [lAz]
 refine tA 7 ?_;try simp only [lAz]
 refine tA 8 ?_;try simp only [lAz]
 refine tA 12 ?_;try simp only [lAz]
 refine tA 13 ?_;try simp only [lAz]
 refine rA 1 (v:=?_) (hy:=?hy) ?_;case hy=>(intro w hE;have q0:=hE.cell c0;go_simp;try with_reducible rfl)
 try simp only [lAz]
 refine rA 3 (v:=?_) (hy:=?hy) ?_;case hy=>(intro w hE;have q0:=hE.cell c1;go_simp;try with_reducible rfl)
 try simp only [lAz]
 refine rA 6 (v:=?_) (hy:=?hy) ?_;case hy=>(intro w hE;have q0:=hE.cell c2;go_simp;try with_reducible rfl)
 try simp only [lAz]
 refine rA 9 (v:=?_) (hy:=?hy) ?_;case hy=>(intro w hE;have q0:=hE.cell c4;go_simp;try with_reducible rfl)
 try simp only [lAz]
 refine wpAny_ready (rs:=[10,14]) (by kernel_rfl) (by simp) (aCz (λ K hK=>?_) (aCz (λ K hK=>?_) AllReady.nil))
 focus
  go_simp
  apply hK
  clear hK K
  refine wpAny_ready (rs:=[11,14]) (by kernel_rfl) (by simp) (aCz (λ K hK=>?_) (aCz (λ K hK=>?_) AllReady.nil))
 rotate_left
 focus
  go_simp
  apply hK
  clear hK K
  refine wpAny_ready (rs:=[11,15]) (by kernel_rfl) (by simp) (aCz (λ K hK=>?_) (aCz (λ K hK=>?_) AllReady.nil))
 rotate_left
 focus
  go_simp
  apply hK
  clear hK K
  refine wpAny_ready (rs:=[11]) (by kernel_rfl) (by simp) (aCz (λ K hK=>?_) AllReady.nil)
 rotate_left
 focus
  go_simp
  apply hK
  clear hK K
  refine wpAny_ready (rs:=[10,15]) (by kernel_rfl) (by simp) (aCz (λ K hK=>?_) (aCz (λ K hK=>?_) AllReady.nil))
 rotate_left
 focus
  go_simp
  apply hK
  clear hK K
  refine rZz 10 λ K hK=>?_;go_simp;apply hK;clear hK K
  refine wpAny_ready (rs:=[11]) (by kernel_rfl) (by simp) (aCz (λ K hK=>?_) AllReady.nil)
 rotate_left 4
 focus
  go_simp
  apply hK
  clear hK K
  refine wpAny_ready (rs:=[11,15]) (by kernel_rfl) (by simp) (aCz (λ K hK=>?_) (aCz (λ K hK=>?_) AllReady.nil))
 rotate_left
 focus
  go_simp
  apply hK
  clear hK K
  refine wpAny_ready (rs:=[11]) (by kernel_rfl) (by simp) (aCz (λ K hK=>?_) AllReady.nil)
 all_goals
  go_simp
  (go_must (refine (HV.out _ _ ?sl).mono ?_);(case sl=>refine sl_blk (T:=3) [.int .i64 x.who,.int .i64 x.seq,.int .i64 x.err,.int .i64 x.num] ?_;(with_reducible first | exact Blk.new' (by simp) | exact Blk.drew (Blk.new' (by simp)) | exact Blk.alloc (Blk.new' (by simp)) _ | exact Blk.drew (Blk.alloc (Blk.new' (by simp)) _) | exact Blk.alloc (Blk.drew (Blk.new' (by simp))) _ | exact Blk.below' (Blk.new' (by simp)) (by assumption) | exact Blk.below' (Blk.drew (Blk.new' (by simp))) (by assumption) | exact Blk.below' (Blk.alloc (Blk.new' (by simp)) _) (by assumption) | exact Blk.below' (Blk.drew (Blk.alloc (Blk.new' (by simp)) _)) (by assumption)));rintro e wv ⟨rfl,hbv⟩)
  have HBv:Hid (Below w.heap.size w wv):=Below.trans (by repeat (first | exact Below.refl _ _ | refine Below.drew ?_ | refine Below.alloc ?_ (by first | omega | (simp;omega) | simp) _)) (hbv.mono (by first | omega | (simp;omega) | simp))
  have hzv:=HBv.out.size
  have hzb:=hbv.size
  try have b3:Blk wv w.heap.size 187 #[.int .i64 x.who,.int .i64 x.seq,.int .i64 x.err,strV x.val,.int .i64 x.num]:=(by repeat (first | with_reducible refine Blk.drew ?_ | (with_reducible refine Blk.new' ?_;first | rfl | (simp;done)) | with_reducible refine Blk.alloc ?_ _ | with_reducible refine Blk.below' ?_ (by assumption)))
  try have n3:=b3.cell 3
  go_simp
  apply hK
  clear hK K
  try (refine rd 14 (by decide +kernel) rfl (λ K hK=>?_);go_simp;apply hK;clear hK K)
  try (refine rd 15 (by decide +kernel) rfl (λ K hK=>?_);go_simp;apply hK;clear hK K)
  refine rZz 16 λ K hK=>?_;go_simp
  (go_must (refine (HT.out _ _ ?sl).mono ?_);(case sl=>refine sl_blk (T:=9) [strV x.val] ?_;(with_reducible first | exact Blk.new' (by simp) | exact Blk.drew (Blk.new' (by simp)) | (refine Blk.below' ?_ hbv;first | exact Blk.drew (Blk.new' (by simp)) | exact Blk.drew (Blk.alloc (Blk.new' (by simp)) _) | exact Blk.new' (by simp) | exact Blk.alloc (Blk.new' (by simp)) _)));rintro e wt ⟨rfl,hbt⟩)
  have HBt:Hid (Below w.heap.size w wt):=Below.trans (HBv.out.trans (by repeat (first | exact Below.refl _ _ | refine Below.drew ?_ | refine Below.alloc ?_ (by first | omega | (simp;omega) | simp) _))) (hbt.mono (by first | omega | (simp;omega) | simp))
  clear hbt hbv
  go_simp
  apply hK
  clear hK K
  refine rZz 17 λ K hK=>?_;go_simp;apply hK;clear hK K
  refine rZz 18 λ K hK=>?_;go_simp;apply hK;clear hK K
  refine wDz ?_
  go_wp2_with (fail)
  go_ret
  exact ⟨by rw [HL.out];exact congrArg (λ s=>Ending.returned (.string s)) (cat_bytes vb tb),HBt.out⟩
theorem RdTo.go {r:Nat} {w w':World} {v:Value} {R:Rd} {e:Ending} (h:RdTo r w v R e w'):e=.returned v/\RdAt w' r R/\Keeps (· = r) w w':=h
theorem read_ok (x:Ses) (w:World) (h:SesGood x) :
  Calls Tryz.prog 159 #[strV (layS x)] w λ e w'=>e=.returned (.tuple #[sesV x,.int .i64 0])/\Below w.heap.size w w':=by
 have hll:=(layS_len h).1
 obtain ⟨h1,h2,h3,h4,h5⟩:=h
 obtain ⟨b4,hb4⟩:=nmz (textB x.val)
 obtain ⟨b3,hb3⟩:=nmz (varB x.num++b4)
 obtain ⟨b2,hb2⟩:=nmz (varB x.err++b3)
 obtain ⟨b1,hb1⟩:=nmz (varB x.seq++b2)
 obtain ⟨b0,hb0⟩:=nmz (layS x)
 have e0:b0=varB x.who++b1:=by
  rw [<- hb0,<- hb1,<- hb2,<- hb3,<- hb4]
  simp [layS,varsB,textsB]
 have r0:Rd.var ⟨b0,0⟩=(x.who,⟨b1,0⟩):=by rw [e0];exact Rd.var_var _ h1 _
 have r1:Rd.var ⟨b1,0⟩=(x.seq,⟨b2,0⟩):=by rw [<- hb1];exact Rd.var_var _ h2 _
 have r2:Rd.var ⟨b2,0⟩=(x.err,⟨b3,0⟩):=by rw [<- hb2];exact Rd.var_var _ h3 _
 have r3:Rd.var ⟨b3,0⟩=(x.num,⟨b4,0⟩):=by rw [<- hb3];exact Rd.var_var _ h4 _
 have r4:Rd.text 2000 ⟨b4,0⟩=(x.val,⟨[],0⟩):=by
  rw [<- hb4]
  have:=Rd.text_text x.val 2000 (by omega) (by omega) []
  rwa [List.append_nil] at this
 have HR:=Hdz (Anz r0 (Anz r1 (Anz r2 (Anz r3 r4))))
 rw [hb0] at hll ⊢
 have H5:=Hdz h5
 clear r0 r1 r2 r3 r4 e0 hb0 hb1 hb2 hb3 hb4 h1 h2 h3 h4 h5
 have HN:Hid (∀ W,Calls Tryz.prog 96 #[.string ⟨b0.toArray⟩] W (NewRd b0 W)):=λ W=>newReader_any b0 W (by omega)
 have HVar:Hid (∀ W r R,RdAt W r R->Calls Tryz.prog 97 #[.pointer (some ⟨r,0,none⟩)] W (RdTo r W (.int .i64 R.var.1) R.var.2)):=λ W r R hr=>var_any r R W hr
 go_enter Tryz.func159,Tryz.ntmps159
 go_wp2_with (fail)
 go_must (refine (HN.out _).mono ?_)
 rintro e w1 ⟨r,rfl,hr,hrz,hbl⟩
 have hz:w.heap.size<r:=by simp at hrz;omega
 have HB1:Hid (Below w.heap.size w w1):=((Below.refl _ w).alloc (Nat.le_refl _) _).trans (hbl.mono (by simp))
 have HC1:Hid (Blk w1 w.heap.size 187 #[.int .i64 0,.int .i64 0,.int .i64 0,strV [],.int .i64 0]):=Blk.below' (Blk.new _ _ _) hbl
 have HV:=Hdz (HVar.out w1 r _ hr)
 clear hbl hr hrz
 go_wp2_with (fail)
 go_must (refine HV.out.mono ?_)
 rintro e w2 hto
 obtain ⟨rfl,hr,hk2⟩:=hto.go
 rw [HR.out.1] at hr ⊢
 have HV:=Hdz (HVar.out w2 r _ hr)
 have HK2:=Hdz hk2
 clear hto hr hk2
 go_wp2_with (fail)
 go_must (refine HV.out.mono ?_)
 rintro e w3 hto
 obtain ⟨rfl,hr,hk3⟩:=hto.go
 rw [HR.out.2.1] at hr ⊢
 have HV:=Hdz (HVar.out w3 r _ hr)
 have HK3:=Hdz (HK2.out.trans hk3 λ i _ e=>e)
 clear hto hr hk3
 go_wp2_with (fail)
 go_must (refine HV.out.mono ?_)
 rintro e w4 hto
 obtain ⟨rfl,hr,hk4⟩:=hto.go
 rw [HR.out.2.2.1] at hr ⊢
 have HV:=Hdz (HVar.out w4 r _ hr)
 have HK4:=Hdz (HK3.out.trans hk4 λ i _ e=>e)
 clear hto hr hk4
 go_wp2_with (fail)
 go_must (refine HV.out.mono ?_)
 rintro e w5 hto
 obtain ⟨rfl,hr,hk5⟩:=hto.go
 rw [HR.out.2.2.2.1] at hr ⊢
 have HV:=Hdz (text_any r _ 2000 w5 hr)
 have HK5:=Hdz (HK4.out.trans hk5 λ i _ e=>e)
 clear hto hr hk5
 go_wp2_with (fail)
 go_must (refine HV.out.mono ?_)
 rintro e w6 hto
 obtain ⟨rfl,hr,hk6⟩:=hto.go
 rw [HR.out.2.2.2.2] at hr ⊢
 have HC:=Hdz (clone_any ⟨x.val.toArray⟩ w6 (by show x.val.length<=_;have:=H5.out;omega))
 have HK6:=Hdz (HK5.out.trans hk6 λ i _ e=>e)
 have HRd:=Hdz hr
 clear hto hr hk6
 go_wp2_with (fail)
 go_must (refine HC.out.mono ?_)
 rintro e w7 ⟨rfl,hb7⟩
 have HK7:Hid (Keeps (· = r) w1 w7):=HK6.out.trans (Keeps.of_below (S:=λ _=>False) hb7) λ i _ e=>e.elim
 have HRd7:=Hdz (HRd.out.keeps (Keeps.of_below (S:=λ _=>False) hb7) id)
 clear hb7
 go_wp2_with (fail)
 obtain ⟨w8,hw8⟩:=nmz (w7.alloc (.cells #[.int .i64 x.who,.int .i64 x.seq,.int .i64 x.err,strV x.val,.int .i64 x.num] 187))
 have hba:Below w7.heap.size w7 w8:=by rw [<- hw8];exact (Below.refl _ _).alloc (Nat.le_refl _) _
 have bx:Blk w8 w7.heap.size 187 #[.int .i64 x.who,.int .i64 x.seq,.int .i64 x.err,strV x.val,.int .i64 x.num]:=by rw [<- hw8];exact Blk.new _ _ _
 have HK8:Hid (Keeps (· = r) w1 w8):=HK7.out.trans (Keeps.of_below (S:=λ _=>False) hba) λ i _ e=>e.elim
 have bz:=HC1.out.keeps HK8.out (by omega)
 have HE:=Hdz (end_any r _ w8 (HRd7.out.keeps (Keeps.of_below (S:=λ _=>False) hba) id))
 have hend:Rd.end ⟨[],0⟩=0:=by rfl
 rw [hend] at HE
 obtain ⟨g5,hg5⟩:=nmz (w7.heap.size)
 rw [hg5] at bx
 have HBz:=Hdz bz
 have HBx:=Hdz bx
 rw [hw8,hg5]
 have x0:=bx.cell 0
 have x1:=bx.cell 1
 have x2:=bx.cell 2
 have x3:=bx.cell 3
 have x4:=bx.cell 4
 have z0:=bz.cell 0
 have z1:=bz.cell 1
 have z2:=bz.cell 2
 have z3:=bz.cell 3
 have z4:=bz.cell 4
 have f0:=bz.frozen 0
 have f1:=bz.frozen 1
 have f2:=bz.frozen 2
 have f3:=bz.frozen 3
 have f4:=bz.frozen 4
 clear bz bx hw8 hba hg5 hend
 go_must (refine HE.out.mono ?_)
 rintro e w9 ⟨rfl,rfl⟩
 go_wp2_with (fail)
 have hfin:=((((HBz.out.set 0 (.int .i64 x.who)).set 1 (.int .i64 x.seq)).set 2 (.int .i64 x.err)).set 3 (strV x.val)).set 4 (.int .i64 x.num)
 refine bodyPost_ret (res_row [.int .i64 x.who,.int .i64 x.seq,.int .i64 x.err,strV x.val,.int .i64 x.num] rfl rfl rfl (by kernel_rfl) hfin) rfl ?_
 have KF:=(((((Keeps.refl (λ k=>k=w.heap.size) w9).setCell (p:=⟨w.heap.size,0,none⟩) (λ _=>rfl) (.int .i64 x.who)).setCell (p:=⟨w.heap.size,1,none⟩) (λ _=>rfl) (.int .i64 x.seq)).setCell (p:=⟨w.heap.size,2,none⟩) (λ _=>rfl) (.int .i64 x.err)).setCell (p:=⟨w.heap.size,3,none⟩) (λ _=>rfl) (strV x.val)).setCell (p:=⟨w.heap.size,4,none⟩) (λ _=>rfl) (.int .i64 x.num)
 have hs1:=HB1.out.size
 have hs8:=HK8.out.size
 exact ⟨rfl,(HB1.out.trans (HK8.out.below hs1 λ i hi e=>by omega)).trans (KF.below (by omega) λ i hi e=>by omega)⟩
section
variable {p most cnt:Nat} {c:Pc} {M:Store} {all:List Pair} {x:Cc} {root:Int} {w:World} {st:List CStep} {items:List Item} {at':Int} {on:Bool}
abbrev pairV (q:Pair):Value:=.agg #[strV q.1,strV q.2]
theorem pair_no (hc:CurAt w p x root st items at' false):Calls Tryz.prog 117 #[ptrV x.b] w λ e w'=>e=.returned (.tuple #[pairV ([],[]),.bool false])/\Below w.heap.size w w':=by
 have hb0:=(Below.refl w.heap.size w).alloc (Nat.le_refl _) (.cells #[strV [],strV []] 139)
 have hc0:=hc.below hb0
 have HBad:=Hdz (bad_not hc0)
 have c5:(w.alloc (.cells #[strV [],strV []] 139)).cell? ⟨x.b,5,none⟩=some (.bool false):=hc0.blk.cell 5
 have bx0:Blk (w.alloc (.cells #[strV [],strV []] 139)) w.heap.size 139 #[strV [],strV []]:=Blk.new _ _ _
 have HX:=Hdz bx0
 have HB:=Hdz hb0
 have q0:(w.alloc (.cells #[strV [],strV []] 139)).cell? ⟨w.heap.size,0,none⟩=some (strV []):=bx0.cell 0
 have q1:(w.alloc (.cells #[strV [],strV []] 139)).cell? ⟨w.heap.size,1,none⟩=some (strV []):=bx0.cell 1
 have p0:=bx0.frozen 0
 have p1:=bx0.frozen 1
 clear hc hc0 hb0 bx0
 go_enter Tryz.func117,Tryz.ntmps117
 go_wp2_with (fail)
 go_must (refine HBad.out.mono ?_)
 rintro e w0 ⟨rfl,rfl⟩
 go_wp2_with (fail)
 refine bodyPost_ret (res_row [strV [],strV []] rfl rfl rfl (by kernel_rfl) HX.out) rfl ?_
 exact ⟨rfl,HB.out⟩
theorem pair_ok (i:Nat) (h:PgOk w p c most M cnt) (hc:CurPos w p x root M all i) (hsh:Short all) :
  Calls Tryz.prog 117 #[ptrV x.b] w λ e w'=>∃ q,all[i]? = some q/\e=.returned (.tuple #[pairV q,.bool true])/\Below w.heap.size w w':=by
 obtain ⟨st,its,lo,hi,ps,off,lid,j,hc,hz,⟨i2,hla⟩,hr,hs,hj,rfl⟩:=hc
 obtain ⟨q,ids,hq,hkey,hval⟩:∃ q ids,all[off+j]? = some q/\its[j].key=q.1/\ValAt M its[j] q.2 ids:=by
  have hlen:=hla.item.1
  obtain ⟨hkey,ids,hval⟩:=hla.item.2 j hj (by omega)
  obtain ⟨a,b,hall,hal,_⟩:=hz.pos
  refine ⟨ps[j]'(by omega),ids,?_,hkey,hval⟩
  rw [hall,List.getElem?_append_right (by omega),hal,Nat.add_sub_cancel_left,List.getElem?_append_left (by omega),List.getElem?_eq_getElem (by omega)]
 have hsv:=hsh _ (List.mem_of_getElem? hq)
 have hb0:=(Below.refl w.heap.size w).alloc (Nat.le_refl _) (.cells #[strV [],strV []] 139)
 have hc0:=hc.below hb0
 have HBad:=Hdz (bad_not hc0)
 have c5:(w.alloc (.cells #[strV [],strV []] 139)).cell? ⟨x.b,5,none⟩=some (.bool true):=hc0.blk.cell 5
 have hit:=hc0.its
 unfold OwnsI at hit
 obtain ⟨Bi,di,hie,_⟩:=Sl.of_own hit
 have c3:(w.alloc (.cells #[strV [],strV []] 139)).cell? ⟨x.b,3,none⟩=some (.slice Bi its.length di):=by rw [<- hie];exact hc0.blk.cell 3
 have c4:(w.alloc (.cells #[strV [],strV []] 139)).cell? ⟨x.b,4,none⟩=some (.int .i64 (j:Int)):=hc0.blk.cell 4
 have c0:(w.alloc (.cells #[strV [],strV []] 139)).cell? ⟨x.b,0,none⟩=some (ptrV p):=hc0.blk.cell 0
 rw [hie] at hit
 obtain ⟨_,_,e0,_,_,hcl⟩:=Sl.of_own hit
 cases e0
 obtain ⟨blk,o,rfl,hbl,hcell⟩:=hcl (by omega)
 obtain ⟨i0,i2',i1,i3⟩:=item_4 (w:=w.alloc (.cells #[strV [],strV []] 139)) λ i u hu=>item_cells (n:=its.length) hcell hj i u hu
 have bx0:Blk (w.alloc (.cells #[strV [],strV []] 139)) w.heap.size 139 #[strV [],strV []]:=Blk.new _ _ _
 have hj0:(0:Int)<=(j:Int):=by omega
 have hj1:(j:Int)<(its.length:Int):=by omega
 have HX:=Hdz bx0
 have HB:=Hdz hb0
 have HIE:=Hdz hie
 have HA:=Hdz (Anz h (Anz hval (Anz hkey (Anz hq (Anz hsv hc0)))))
 have hlt:x.b<(w.alloc (.cells #[strV [],strV []] 139)).heap.size:=hc0.blk.lt
 simp only [World.size_alloc] at hlt
 clear hc hz hla hr hs hq hsv hkey hval h hc0 hb0 bx0 hit hie hcl hcell
 generalize hit0:its[j]=it at *
 clear hit0
 obtain ⟨ik,iv,io,isz⟩:=it
 simp only at i0 i1 i2' i3
 go_enter Tryz.func117,Tryz.ntmps117
 go_wp2_with (fail)
 go_must (refine HBad.out.mono ?_)
 rintro e w0 ⟨rfl,rfl⟩
 go_wp2_with (fail)
 refine wRz ?_
 try simp only [lAz]
 refine tA 0 ?_;try simp only [lAz]
 refine tA 1 ?_;try simp only [lAz]
 refine tA 2 ?_;try simp only [lAz]
 refine tA 4 ?_;try simp only [lAz]
 refine tA 5 ?_;try simp only [lAz]
 refine tA 6 ?_;try simp only [lAz]
 refine rA 3 (v:=?_) (hy:=?hy) ?_;case hy=>(intro w hE;have q0:=hE.cell c3;go_simp;try with_reducible rfl)
 try simp only [lAz]
 refine rA 7 (v:=?_) (hy:=?hy) ?_;case hy=>(intro w hE;have q0:=hE.cell c4;go_simp;try with_reducible rfl)
 try simp only [lAz]
 refine tA 8 ?_;try simp only [lAz]
 refine rA 9 (v:=?_) (hy:=?hy) ?_;case hy=>(intro w hE;have q0:=hE.cell i0;have q1:=hE.cell i1;have q2:=hE.cell i2';have q3:=hE.cell i3;go_simp;try with_reducible rfl)
 try simp only [lAz]
 refine rZz 10 λ K hK=>?_;go_simp;apply hK;clear hK K
 refine rZz 11 λ K hK=>?_;go_simp;apply hK;clear hK K
 refine wDz ?_
 obtain ⟨h,hval,hkey,hq,hsv,hc0⟩:=HA.out
 subst hkey
 obtain ⟨Wx,hWx⟩:∃ Wx,Wx=((w.alloc (.cells #[strV [],strV []] 139)).alloc (.cells #[strV q.1,strV iv,.int .i64 io,.int .i64 isz] 223)).drew:=⟨_,rfl⟩
 have hb1:Below (w.alloc (.cells #[strV [],strV []] 139)).heap.size (w.alloc (.cells #[strV [],strV []] 139)) Wx:=by rw [hWx];exact ((Below.refl _ _).alloc (Nat.le_refl _) _).drew
 have hbw:Below w.heap.size w Wx:=HB.out.trans (hb1.mono (by simp))
 have hids:=val_len hval hsv
 have hV:=value_ok ⟨q.1,iv,io,isz⟩ q.2 ids Wx.drew ((h.below hbw).below ((Below.refl _ Wx).drew)) hval hsv (by omega)
 have d0:Wx.cell? ⟨x.b,0,none⟩=some (ptrV p):=(Blk.below' hc0.blk hb1).cell 0
 have bit:Blk Wx (w.heap.size+1) 223 #[strV q.1,strV iv,.int .i64 io,.int .i64 isz]:=by
  rw [hWx]
  exact Blk.new' (by simp)
 have t0:Wx.cell? ⟨w.heap.size+1,0,none⟩=some (strV q.1):=bit.cell 0
 have t1:Wx.cell? ⟨w.heap.size+1,1,none⟩=some (strV iv):=bit.cell 1
 have t2:Wx.cell? ⟨w.heap.size+1,2,none⟩=some (.int .i64 io):=bit.cell 2
 have t3:Wx.cell? ⟨w.heap.size+1,3,none⟩=some (.int .i64 isz):=bit.cell 3
 have bp:Blk Wx w.heap.size 139 #[strV [],strV []]:=Blk.below' HX.out hb1
 have hzx:w.heap.size+1<Wx.heap.size:=bit.lt
 have HV:=Hdz hV
 have HBW:=Hdz (Anz hbw (Anz bit (Anz bp hq)))
 simp only [<- hWx]
 clear hV hbw hb1 hc0 hval hsv hids h hq bit bp c0 c3 c4 c5 i0 i1 i2' i3 hWx
 go_wp2_with (fail)
 refine wRz ?_
 try simp only [lAz]
 refine tA 0 ?_;try simp only [lAz]
 refine tA 1 ?_;try simp only [lAz]
 refine tA 2 ?_;try simp only [lAz]
 refine rA 3 (v:=?_) (hy:=?hy) ?_;case hy=>(intro w hE;have q0:=hE.cell d0;go_simp;try with_reducible rfl)
 try simp only [lAz]
 refine rA 4 (v:=?_) (hy:=?hy) ?_;case hy=>(intro w hE;have q0:=hE.cell t0;have q1:=hE.cell t1;have q2:=hE.cell t2;have q3:=hE.cell t3;go_simp;try with_reducible rfl)
 try simp only [lAz]
 refine rZz 5 λ K hK=>?_;go_simp
 (go_must (refine HV.out.mono ?_);rintro e w2 ⟨rfl,hb2⟩)
 go_simp
 apply hK
 clear hK K
 try simp only [lAz]
 refine tA 6 ?_;try simp only [lAz]
 refine tA 7 ?_;try simp only [lAz]
 refine tA 8 ?_;try simp only [lAz]
 refine rZz 9 λ K hK=>?_;go_simp;apply hK;clear hK K
 refine rZz 10 λ K hK=>?_;go_simp;apply hK;clear hK K
 refine wDz ?_
 obtain ⟨hbw,bit,bp,hq⟩:=HBW.out
 have hb2':Below Wx.heap.size Wx w2:=((Below.refl _ Wx).drew).trans hb2
 have bit2:=Blk.below' bit hb2'
 have bp2:=Blk.below' bp hb2'
 have s0:w2.cell? ⟨w.heap.size+1,0,none⟩=some (strV q.1):=bit2.cell 0
 have r0:w2.cell? ⟨w.heap.size,0,none⟩=some (strV []):=bp2.cell 0
 have r1:w2.cell? ⟨w.heap.size,1,none⟩=some (strV []):=bp2.cell 1
 have f0:=bp2.frozen 0
 have f1:=bp2.frozen 1
 have hbf:Blk ((w2.setCell ⟨w.heap.size,0,none⟩ (strV q.1)).setCell ⟨w.heap.size,1,none⟩ (strV q.2)) w.heap.size 139 #[strV q.1,strV q.2]:=(bp2.set 0 (strV q.1)).set 1 (strV q.2)
 have hbe:Below w.heap.size w ((w2.setCell ⟨w.heap.size,0,none⟩ (strV q.1)).setCell ⟨w.heap.size,1,none⟩ (strV q.2)):=((hbw.trans (hb2'.mono (by omega))).setCell (p:=⟨w.heap.size,0,none⟩) (Nat.le_refl _) _).setCell (p:=⟨w.heap.size,1,none⟩) (Nat.le_refl _) _
 have HBE:=Hdz (Anz hbe hq)
 have HBF:=Hdz hbf
 clear hbw bit bp hq hb2' bit2 bp2 hbf hbe hb2
 go_wp2_with (fail)
 refine bodyPost_ret (res_row [strV q.1,strV q.2] rfl rfl rfl (by kernel_rfl) HBF.out) rfl ?_
 exact ⟨q,HBE.out.2,rfl,HBE.out.1⟩
end
theorem aheadP_app {k:Bytes}:∀ {a b:List Pair},(∀ q∈a,lessB q.1 k=true)->aheadP k (a++b)=a.length+aheadP k b
 | [],b,_=>by simp
 | q :: a,b,h=>by
  simp only [List.cons_append,aheadP,List.length_cons]
  rw [if_pos (h q (List.mem_cons_self ..)),aheadP_app λ z hz=>h z (List.mem_cons_of_mem _ hz)]
  omega
theorem aheadP_stop {k:Bytes}:∀ {a b:List Pair},(∀ q∈b,lessB q.1 k=false)->aheadP k (a++b)=aheadP k a
 | [],[],_=>rfl
 | [],q :: b,h=>by simp [aheadP,h q (List.mem_cons_self ..)]
 | q :: a,b,h=>by
  simp only [List.cons_append,aheadP]
  rw [aheadP_stop h]
theorem ahead_leaf {M:Store} {k:Bytes}:∀ {l:List Item} {ps:List Pair} {ids:List Int},LeafAt M l ps ids->ahead k l=aheadP k ps
 | [],_,_,⟨h,_⟩=>by subst h;rfl
 | x :: l,_,_,⟨v,ps',i1,i2,h1,h2,h3,h4⟩=>by
  subst h1
  simp only [ahead,aheadP]
  rw [ahead_leaf h4]
theorem ahead_zip {M:Store} {all ps:List Pair} {id:Int} {lo:Bytes} {hi:Option Bytes} {off:Nat} {path:List (List Child × Nat)} {its:List Item} {i2:List Int} {key:Bytes} (hz:Zip M 1 all 0 id lo hi ps off path) (hla:LeafAt M its ps i2) (hin:inR lo hi key):aheadP key all=off+ahead key its:=by
 obtain ⟨a,b,e1,e2,e3,e4⟩:=hz.pos
 rw [e1,aheadP_app λ q hq=>lessB_of_lt_le (e3 q hq) hin.1,e2,aheadP_stop,ahead_leaf hla]
 intro q hq
 obtain ⟨u,hu,hl⟩:=e4 q hq
 cases hc:lessB q.1 key
 ·rfl
 ·have:=lessB_trans hc (hin.2 u hu)
  rw [this] at hl
  cases hl
section
variable {p most cnt:Nat} {c:Pc} {M:Store} {all:List Pair} {x:Cc} {root:Int} {w:World} {st:List CStep} {items:List Item} {at':Int} {on:Bool}
theorem seek_picks {key:Bytes}:Picks M all (λ L=>findC key L) (λ lo hi _ _=>inR lo hi key):=by
 intro L lo hi ps off lo' hi' ps' off' hL h1 h2 h3 h4
 exact h3 key h4 rfl
theorem seek_ok (kk:Nat) (ids:List Int) (key:Bytes) (h:PgOk w p c most M cnt) (hT:TopAt M kk root all ids) (hlow:kk<30) (hc:CurAt w p x root st items at' on) (hn:∀ j,c.S p j->¬ x.S j) :
  Calls Tryz.prog 115 #[ptrV x.b,strV key] w (GoesP p x root M all (if aheadP key all<all.length then some (aheadP key all) else none) w):=by
 obtain ⟨R,hR⟩:∃ R:Option Nat,R=if aheadP key all<all.length then some (aheadP key all) else none:=⟨_,rfl⟩
 rw [<- hR]
 have HR:=Hdz hR
 clear hR
 have hb0:=(Below.refl w.heap.size w).alloc (Nat.le_refl _) (.cells #[strV key] 9)
 have bk:Blk (w.alloc (.cells #[strV key] 9)) w.heap.size 9 #[strV key]:=Blk.new _ _ _
 have hc0:=hc.below hb0
 have hkx:¬ x.S w.heap.size:=λ e=>by have:=hc.lt _ e;omega
 have HBad:=Hdz (bad_not hc0)
 have HRe:=Hdz (reset_ok hc0)
 have HH:=Hdz (Anz h (Anz hT (Anz hc (Anz hn (Anz hb0 (Anz bk (Anz hkx hlow)))))))
 clear h hT hc hn hc0 hb0 bk hkx hlow
 go_enter Tryz.func115,Tryz.ntmps115
 go_wp2_with (fail)
 go_must (refine HBad.out.mono ?_)
 rintro e w0 ⟨rfl,rfl⟩
 go_wp2_with (fail)
 go_must (refine HRe.out.mono ?_)
 rintro e w1 ⟨rfl,hc1,hk1⟩
 obtain ⟨h,hT,hc,hn,hb0,bk,hkx,hlow⟩:=HH.out
 have hk01:=(CurK.of_below (x:=x) hb0).trans hk1
 have hpg1:=h.keeps hk01.keeps hn
 have hn1:=hk01.hn h hn
 have bk1:=bk.keeps hk1.keeps hkx
 have c1:w1.cell? ⟨x.b,1,none⟩=some (.int .i64 root):=hc1.blk.cell 1
 have hkx1:¬ (⟨x.b,.slice none 0 0,.slice none 0 0⟩:Cc).S w.heap.size:=λ e=>by
  rcases e with e | e
  ·exact hkx (.inl e)
  ·cases e
 have hD:=down_ok 163 #[.pointer (some ⟨w.heap.size,0,none⟩)] (λ L=>findC key L) (λ lo hi _ _=>inR lo hi key) (enters_of Tryz.func163 (by kernel_rfl) rfl) (λ L hL=>by
   cases L with
   | nil=>exact absurd rfl hL
   | cons a b=>exact findC_lt)
  (λ W A n d L hW hO hr hl hn=>(seekpick_any A n d w.heap.size L key W ((bk1.keeps hW hkx1).cell 0) (by have:=Sl.of_own hO;rw [hl] at this;exact this) (by omega) hr).mono λ e w' ⟨h1,h2⟩=>⟨h1,h2 ▸ Below.refl _ _⟩) seek_picks
  kk root [] none all 0 [] [] 0 false hpg1 hc1 hn1 (.root hT.tree hT.wide hlow) (by simpa using hlow) ⟨lessB_nil _,λ u hu=>by cases hu⟩
 have HD:=Hdz hD
 have HK:=Hdz (Anz hk01 bk1)
 clear h hT hc hn hb0 bk hkx hlow hc1 hk1 hk01 hpg1 hn1 hD bk1 hkx1
 go_wp2_with (fail)
 go_must (refine HD.out.mono ?_)
 rintro e w2 ⟨x2,st2,its,lo,hi,ps,off,lid,rfl,hc2,hk2,hz2,⟨i2,hla⟩,hr,hs,hne,hq⟩
 have hxb:x2.b=x.b:=hk2.same
 obtain ⟨h,hT,hc,hn,hb0,bk,hkx,hlow⟩:=HH.out
 obtain ⟨hk01,bk1⟩:=HK.out
 have hk02:=hk01.trans hk2
 have hpg2:=h.keeps hk02.keeps hn
 have hn2:=hk02.hn h hn
 have hkx1:¬ (⟨x.b,.slice none 0 0,.slice none 0 0⟩:Cc).S w.heap.size:=λ e=>by
  rcases e with e | e
  ·exact hkx (.inl e)
  ·cases e
 have bk2:=bk1.keeps hk2.keeps hkx1
 have hahead:=ahead_zip hz2 hla hq
 have hlen:=hla.item.1
 have hl240:its.length<=240:=by have:=layI_ge0 its;omega
 have hit:=hc2.its
 unfold OwnsI at hit
 obtain ⟨Bi,di,hie,_⟩:=Sl.of_own hit
 have c3:w2.cell? ⟨x.b,3,none⟩=some (.slice Bi its.length di):=by rw [<- hxb,<- hie];exact hc2.blk.cell 3
 have ck:w2.cell? ⟨w.heap.size,0,none⟩=some (strV key):=bk2.cell 0
 rw [hie] at hit
 have hF:=findI_any Bi its.length di its key w2.drew (Sl.of_own hit) (by omega) hr
 have hF2:=Hdz hF
 have hale:=ahead_le key its
 have HA:=Hdz (Anz hc2 (Anz hk02 (Anz hz2 (Anz hla (Anz hr (Anz hs (Anz hne (Anz hpg2 (Anz hn2 (Anz hahead (Anz hlen (Anz hie hlow))))))))))))
 have hc3c:Hid (∀ W,Below w2.heap.size w2 W->W.cell? ⟨x.b,3,none⟩=some (.slice Bi its.length di)):=λ W hW=>by rw [<- hxb,<- hie];exact (Blk.below' hc2.blk hW).cell 3
 clear h hT hc hn hb0 bk hkx hlow hk01 bk1 hk02 hpg2 hn2 hkx1 bk2 hahead hit hF hc2 hk2 hz2 hla hr hs hne hlen hie
 go_wp2_with (fail)
 refine wRz ?_
 try simp only [lAz]
 refine tA 0 ?_;try simp only [lAz]
 refine tA 1 ?_;try simp only [lAz]
 refine tA 2 ?_;try simp only [lAz]
 refine rA 3 (v:=?_) (hy:=?hy) ?_;case hy=>(intro w hE;have q0:=hE.cell c3;go_simp;try with_reducible rfl)
 try simp only [lAz]
 refine rA 4 (v:=?_) (hy:=?hy) ?_;case hy=>(intro w hE;have q0:=hE.cell ck;go_simp;try with_reducible rfl)
 try simp only [lAz]
 refine rZz 5 λ K hK=>?_;go_simp
 (go_must (refine hF2.out.mono ?_);rintro e w3 ⟨rfl,hb3⟩)
 go_simp
 apply hK
 clear hK K
 try simp only [lAz]
 refine tA 6 ?_;try simp only [lAz]
 refine tA 7 ?_;try simp only [lAz]
 refine tA 8 ?_;try simp only [lAz]
 refine rZz 9 λ K hK=>?_;go_simp;apply hK;clear hK K
 refine rZz 10 λ K hK=>?_;go_simp;apply hK;clear hK K
 refine wDz ?_
 obtain ⟨hc2,hk02,hz2,hla,hr,hs,hne,hpg2,hn2,hahead,hlen,hie,hlow⟩:=HA.out
 have hb23:Below w2.heap.size w2 w3:=((Below.refl _ w2).drew).trans hb3
 have hc3:=hc2.below hb23
 have c3':=hc3c.out w3 hb23
 by_cases hlt:ahead key its<its.length
 ·have hlt':((ahead key its:Nat):Int)<(its.length:Int):=by omega
  have hS:=stand_ok hc3 (ahead key its) hlt
  rw [hxb] at hS
  have HS:=Hdz hS
  have HB:=Hdz hb23
  clear hS hc2 hk02 hz2 hla hr hs hne hpg2 hn2 hahead hlen hie hlow hb23 hc3 hb3
  go_wp2_with (fail)
  go_must (refine HS.out.mono ?_)
  rintro e w4 ⟨rfl,r1,r2⟩
  have HR2:=Hdz (Anz r1 r2)
  clear r1 r2
  go_wp2_with (fail)
  go_ret
  obtain ⟨hc2,hk02,hz2,hla,hr,hs,hne,hpg2,hn2,hahead,hlen,hie,hlow⟩:=HA.out
  have hzl:=hz2.len
  rw [HR.out,if_pos (by omega),hahead]
  exact ⟨rfl,x2,⟨st2,its,lo,hi,ps,off,lid,ahead key its,HR2.out.1,hz2,⟨_,hla⟩,hr,hs,hlt,rfl⟩,(hk02.trans (CurK.of_below HB.out)).trans HR2.out.2⟩
 ·have hlt':¬ ((ahead key its:Nat):Int)<(its.length:Int):=by omega
  have hO:=overN_ok lid lo hi ps off (off+ps.length) (hpg2.below hb23) hc3 hn2 hz2 rfl
  rw [hxb] at hO
  have HO:=Hdz hO
  have HB:=Hdz hb23
  clear hO hc2 hk02 hz2 hla hr hs hne hpg2 hn2 hahead hlen hie hlow hb23 hc3 hb3
  go_wp2_with (fail)
  go_must (refine HO.out.mono ?_)
  rintro e w4 hov
  unfold OverP at hov
  by_cases hT:off+ps.length<all.length
  ·rw [decide_eq_true hT] at hov
   simp only [if_true] at hov
   obtain ⟨x3,st3,its3,lo3,hi3,ps3,off3,lid3,rfl,q1,q2,q3,⟨i3,q4⟩,q5,q6,q7,q8⟩:=hov
   have hxb3:=q2.same.trans hxb
   have hlen3:=q4.item.1
   have hne3:its3≠[]:=by
    by_cases h0:st3=[]
    ·subst h0
     obtain ⟨e1,e2⟩:=Zip.top q3
     rintro rfl
     subst e1
     simp at hlen3
     omega
    ·exact q7 h0
   have hp:=List.length_pos_iff.2 hne3
   have hS:=stand_ok q1 0 hp
   rw [hxb3] at hS
   have HS:=Hdz hS
   have HQ:=Hdz (Anz q2 (Anz q3 (Anz q4 (Anz q5 (Anz q6 (Anz q8 (Anz hp hT)))))))
   clear hS q1 q2 q3 q4 q5 q6 q7 q8 hp hne3 hT hlen3
   go_wp2_with (fail)
   go_must (refine HS.out.mono ?_)
   rintro e w5 ⟨rfl,r1,r2⟩
   have HR2:=Hdz (Anz r1 r2)
   clear r1 r2
   go_wp2_with (fail)
   go_ret
   obtain ⟨q2,q3,q4,q5,q6,q8,hp,hT⟩:=HQ.out
   obtain ⟨hc2,hk02,hz2,hla,hr,hs,hne,hpg2,hn2,hahead,hlen,hie,hlow⟩:=HA.out
   rw [HR.out,if_pos (by omega),hahead]
   exact ⟨rfl,x3,⟨st3,its3,lo3,hi3,ps3,off3,lid3,0,HR2.out.1,q3,⟨_,q4⟩,q5,q6,hp,by omega⟩,((hk02.trans (CurK.of_below HB.out)).trans q2).trans HR2.out.2⟩
  ·rw [decide_eq_false hT] at hov
   simp only [Bool.false_eq_true,if_false] at hov
   obtain ⟨rfl,q1,q2⟩:=hov
   have HQ:=Hdz (Anz q1 (Anz q2 hT))
   clear q1 q2 hT
   go_wp2_with (fail)
   go_ret
   obtain ⟨q1,q2,hT⟩:=HQ.out
   obtain ⟨hc2,hk02,hz2,hla,hr,hs,hne,hpg2,hn2,hahead,hlen,hie,hlow⟩:=HA.out
   rw [HR.out,if_neg (by omega)]
   exact ⟨rfl,_,⟨_,_,_,q1⟩,(hk02.trans (CurK.of_below HB.out)).trans q2⟩
end
end Go.Ev
namespace Go.Ev
def stopR (hi:Bytes) (most:Int) (n:Nat) (q:Pair):Bool:=(decide (hi≠[]) && !lessB q.1 hi) || (decide (0<most) && decide (most<=(n:Int)))
def goR (hi:Bytes) (most:Int):Nat->List Pair->List Pair
 | _,[]=>[]
 | n,q :: l=>if stopR hi most n q then [] else q :: goR hi most (n+1) l
def rangeP (lo hi:Bytes) (most:Int) (ps:List Pair):List Pair:=goR hi most 0 (ps.drop (aheadP lo ps))
theorem stopR_free (hi:Bytes) (n:Nat) (q:Pair):stopR hi 0 n q=(decide (hi≠[]) && !lessB q.1 hi):=by simp [stopR]
theorem goR_free (hi:Bytes):∀ (n m:Nat) (l:List Pair),goR hi 0 n l=goR hi 0 m l
 | _,_,[]=>rfl
 | n,m,q :: l=>by
  simp only [goR,stopR_free]
  rw [goR_free hi (n+1) (m+1) l]
theorem goR_all (n:Nat):∀ l:List Pair,goR [] 0 n l=l
 | []=>rfl
 | q :: l=>by
  have e:stopR [] 0 n q=false:=by simp [stopR]
  simp only [goR,e,Bool.false_eq_true,if_false]
  rw [goR_free [] (n+1) n,goR_all n l]
theorem rangeP_rest (key:Bytes) (all:List Pair):rangeP key [] 0 all=all.drop (aheadP key all):=goR_all 0 _
theorem aheadP_nil (all:List Pair):aheadP [] all=0:=by
 cases all with
 | nil=>rfl
 | cons q l=>simp [aheadP,lessB_nil]
theorem rangeP_all (all:List Pair):rangeP [] [] 0 all=all:=by rw [rangeP_rest,aheadP_nil,List.drop_zero]
open Go.Lib
theorem insB_mem {x b:Bk}:∀ {L:List Bk},b∈insB x L->b=x\/b∈L
 | [],h=>.inl (List.mem_singleton.1 h)
 | y :: l,h=>by
  simp only [insB] at h
  split at h
  ·rcases List.mem_cons.1 h with rfl | h
   ·exact .inr (List.mem_cons_self ..)
   ·exact (insB_mem h).imp id λ h=>List.mem_cons_of_mem _ h
  ·split at h
   ·rcases List.mem_cons.1 h with rfl | h
    ·exact .inl rfl
    ·exact .inr h
   ·rcases List.mem_cons.1 h with rfl | h
    ·exact .inl rfl
    ·exact .inr (List.mem_cons_of_mem _ h)
theorem insB_len {x:Bk}:∀ L:List Bk,(insB x L).length<=L.length+1
 | []=>Nat.le_refl _
 | y :: l=>by
  simp only [insB]
  split
  ·have:=insB_len (x:=x) l
   simp only [List.length_cons]
   omega
  ·split
   ·simp
   ·simp
theorem getB_ins {x:Bk}:∀ L:List Bk,getB x.name (insB x L)=some x
 | []=>by simp [insB,getB]
 | y :: l=>by
  simp only [insB]
  split
  ·rename_i h
   simp only [getB]
   rw [if_neg (lessB_ne h),getB_ins l]
  ·split
   ·simp [getB]
   ·simp [getB]
theorem getB_ins_ne {x:Bk} {k:List UInt8} (hk:k≠x.name):∀ L:List Bk,getB k (insB x L)=getB k L
 | []=>by simp only [insB,getB];rw [if_neg (Ne.symm hk)]
 | y :: l=>by
  simp only [insB]
  split
  ·simp only [getB,getB_ins_ne hk l]
  ·rename_i h1
   split
   ·simp only [getB]
    rw [if_neg (Ne.symm hk)]
   ·rename_i h2
    have e:y.name=x.name:=by
     rcases lessB_total y.name x.name with h | h | h
     ·exact absurd h h1
     ·exact h
     ·exact absurd h h2
    simp only [getB]
    rw [if_neg (Ne.symm hk),if_neg (e ▸ Ne.symm hk)]
theorem getB_ins_some {x:Bk} {k:List UInt8} {L:List Bk} (h:getB k L≠none):getB k (insB x L)≠none:=by
 by_cases hk:k=x.name
 ·subst hk
  rw [getB_ins]
  simp
 ·rw [getB_ins_ne hk]
  exact h
def OneK (ps:List Pair):Prop:=ps=[]\/∃ v:List UInt8,v.length<=1/\ps=[([107],v)]
theorem OneK.small {ps:List Pair} (h:OneK ps):ps.length<=1/\sumV ps<=1:=by
 rcases h with rfl | ⟨u,hu,rfl⟩
 ·simp [sumV]
 ·simp only [sumV,List.length_cons,List.length_nil]
  omega
structure FewB (i:Nat) (rn:Nat) (L:List Bk):Prop where
 len:L.length<=i
 top:rn<=i
 each:∀ b∈L,b.t.n<=i/\OneK b.t.ps
theorem FewB.mono {i j rn:Nat} {L:List Bk} (h:FewB i rn L) (hij:i<=j):FewB j rn L:=⟨Nat.le_trans h.len hij,Nat.le_trans h.top hij,λ b hb=>⟨Nat.le_trans (h.each b hb).1 hij,(h.each b hb).2⟩⟩
theorem FewB.ins {i rn:Nat} {L:List Bk} (h:FewB i rn L) {x:Bk} (hn:x.t.n<=i+1) (hx:OneK x.t.ps):FewB (i+1) (rn+1) (insB x L):=
 ⟨Nat.le_trans (insB_len L) (Nat.succ_le_succ h.len),Nat.succ_le_succ h.top,λ b hb=>by
  rcases insB_mem hb with rfl | hb
  ·exact ⟨hn,hx⟩
  ·exact ⟨Nat.le_succ_of_le (h.each b hb).1,(h.each b hb).2⟩⟩
theorem ndT_one:∀ {T:List Tr},(∀ t∈T,t.ps.length<=1/\sumV t.ps<=1)->ndT T<=480*T.length
 | [],_=>Nat.zero_le _
 | t :: T,h=>by
  have ih:=ndT_one λ x hx=>h x (List.mem_cons_of_mem _ hx)
  obtain ⟨h1,h2⟩:=h t (List.mem_cons_self ..)
  have hw:=ndP_W t.n t.ps
  unfold ndW at hw
  rw [if_pos h1] at hw
  simp only [ndT,List.length_cons]
  omega
theorem sumV_top:∀ L:List Bk,sumV (topP L)=4*L.length
 | []=>rfl
 | b :: L=>by
  have:=sumV_top L
  unfold topP at this ⊢
  simp only [List.map_cons,sumV,List.length_cons,this,fix4_len]
  omega
theorem FewB.nd {i rn:Nat} {L:List Bk} (h:FewB i rn L) (hi:i<=124):ndT (⟨0,topP L,[],rn⟩ :: L.map (·.t))<=596000:=by
 have h1:ndT (L.map (·.t))<=480*(L.map (·.t)).length:=ndT_one λ t ht=>by
  obtain ⟨b,hb,rfl⟩:=List.mem_map.1 ht
  exact (h.each b hb).2.small
 rw [List.length_map] at h1
 have h2:=h.len
 have h3:(topP L).length=L.length:=by unfold topP;rw [List.length_map]
 have h4:min rn 17*L.length<=17*124:=Nat.mul_le_mul (Nat.min_le_right _ _) (by omega)
 have hw:=ndP_W rn (topP L)
 simp only [ndW,h3,sumV_top] at hw
 simp only [ndT]
 split at hw
 ·omega
 ·omega
theorem FewB.roomy {i rn:Nat} {L:List Bk} (h:FewB i rn L) (hi:i<=124):Roomy 3000 rn L:=
 ⟨by have:=h.top;omega,λ b hb=>by have:=(h.each b hb).1;omega,by have:=h.nd hi;omega⟩
end Go.Ev
namespace Go.Ev
open Go.Proofs Go.RowKit
theorem pgInv_new:PgInv 2 [] [] []:=by
 refine ⟨List.nodup_nil,List.nodup_nil,List.nodup_nil,λ k=>Iff.rfl,λ k=>⟨λ h=>by omega,λ h=>by rcases h with h | h<;>cases h⟩,(λ k h=>by cases h),(λ k v h=>by cases h),Nat.le_refl _,(λ k v h=>by cases h)⟩
theorem pages_new:Pages [] (λ _=>none):=λ _=>rfl
theorem pgOk_new {m:Nat} (hm:4<=m/\m<=3000) {w:World} {p d f mb db wb sb B:Nat} {sy nw:Value} (h:Blk w p 212 #[ptrV d,ptrV f,.int .i64 2,.int .i64 2,.int .i64 1,.map (some mb),.map (some db),.map (some wb),ptrV sb])
  (hf:Blk w f 274 #[.slice none 0 0,.slice none 0 0,.map none]) (hd:DevAt w d m 2 sy nw) (m1:MapI w mb [] 0) (m2:MapI w db [] 0) (m3:MapI w wb [] 0) (hs:Pl w sb (.slice none 0 0) [])
  (hdB:d<B) (hfB:f<B) (hsy:∀ k,sy.ownBlock=some k->k<B) (hnw:∀ k,nw.ownBlock=some k->k<B) (hp:B<=p) (h1:p<mb) (h2:mb<db) (h3:db<wb) (h4:wb<sb) :
  PgOk w p ⟨d,f,mb,db,wb,sb,.slice none 0 0,sy,nw⟩ m (λ _=>none) 0:=by
 have hdf:d≠f:=by
  rintro rfl
  have:=(hd.blk.eq hf).1
  revert this
  decide
 have hsyd:∀ k,sy.ownBlock=some k->k≠d/\k≠f:=λ k e=>by
  obtain ⟨cs,hr⟩:=hd.srow
  exact ⟨own_ne hr hd.blk (by decide) k e,own_ne hr hf (by decide) k e⟩
 have hnwd:∀ k,nw.ownBlock=some k->k≠d/\k≠f:=λ k e=>by
  obtain ⟨cs,hr⟩:=hd.nrow
  exact ⟨own_ne hr hd.blk (by decide) k e,own_ne hr hf (by decide) k e⟩
 refine ⟨2,[],[],0,0,0,[],⟨h,hf,hd,m1,m2,m3,hs,?_,?_,?_,?_,⟨Nat.le_refl _,by omega⟩,Clk.nil _⟩,pgInv_new,pages_new,rfl⟩
 ·simp only [Pc.ids,List.nodup_cons,List.mem_cons,List.not_mem_nil,or_false,not_or,List.nodup_nil,not_false_eq_true,and_true]
  refine ⟨⟨?_,?_,?_,?_,?_,?_⟩,⟨hdf,?_,?_,?_,?_⟩,⟨?_,?_,?_,?_⟩,⟨?_,?_,?_⟩,⟨?_,?_⟩,?_⟩<;>omega
 ·intro k e;cases e
 ·intro k e hm
  have a:=hsyd k e
  have b:=hsy k e
  simp only [Pc.ids,List.mem_cons,List.not_mem_nil,or_false] at hm
  rcases hm with hm | hm | hm | hm | hm | hm | hm<;>omega
 ·intro k e hm
  have a:=hnwd k e
  have b:=hnw k e
  simp only [Pc.ids,List.mem_cons,List.not_mem_nil,or_false] at hm
  rcases hm with hm | hm | hm | hm | hm | hm | hm<;>omega
def PNewP (m d f:Nat) (sy nw:Value) (w:World) (e:Ending) (w':World):Prop:=
 ∃ p c,e=.returned (.tuple #[ptrV p,.int .i64 0])/\PgOk w' p c m (λ _=>none) 0/\(∀ k,c.S p k->k=d\/k=f\/sy.ownBlock=some k\/nw.ownBlock=some k\/w.heap.size<=k)/\Below w.heap.size w w'
theorem pnew_end {m:Nat} (hm:4<=m/\m<=3000) {d f p:Nat} {sy nw:Value} {w w1 w2 w3:World} (hd:DevAt w d m 2 sy nw) (hf:Blk w f 274 #[.slice none 0 0,.slice none 0 0,.map none]) (h1:Below w.heap.size w w1) (hp:p=w1.heap.size) (e2:w1.alloc (.cells (pg0 d f) 212)=w2) {e:Ending} (hc:ClearP p d f w2 e w3) :
  PNewP m d f sy nw w (.returned (.tuple #[ptrV p,.int .i64 0])) w3:=by
 have hb2:Below w.heap.size w w2:=by subst e2;exact h1.alloc h1.size _
 have z2:w2.heap.size=w1.heap.size+1:=by subst e2;simp
 have hz:=h1.size
 obtain ⟨_,mb,db,wb,sb,k1,k2,k3,k4,k5,k6,k7,k8,k9,kK⟩:=hc
 have hb3:Below w.heap.size w w3:=hb2.trans (kK.below (by omega) (λ i hi e=>by omega))
 have hd3:DevAt w3 d m 2 sy nw:=hd.keeps (S:=λ _=>False) (Keeps.of_below hb3) λ _ _ h=>h
 have hf3:=hf.below' hb3
 refine ⟨p,_,rfl,pgOk_new hm (B:=w.heap.size) k1 hf3 hd3 k2 k3 k4 k5 hd.blk.lt hf.lt ?_ ?_ (by omega) (by omega) k7 k8 k9,?_,hb3⟩
 ·intro k e;obtain ⟨cs,hr⟩:=hd.srow;exact (hr.lt k e).2
 ·intro k e;obtain ⟨cs,hr⟩:=hd.nrow;exact (hr.lt k e).2
 ·rintro k (hk | hk | hk | hk)
  ·simp only [Pc.ids,List.mem_cons,List.not_mem_nil,or_false] at hk
   rcases hk with hk | hk | hk | hk | hk | hk | hk
   ·right;right;right;right;omega
   ·left;omega
   ·right;left;omega
   ·right;right;right;right;omega
   ·right;right;right;right;omega
   ·right;right;right;right;omega
   ·right;right;right;right;omega
  ·cases hk
  ·exact .inr (.inr (.inl hk))
  ·exact .inr (.inr (.inr (.inl hk)))
theorem pagerNew_any {m:Nat} (hm:4<=m/\m<=3000) (d f:Nat) (sy nw:Value) (w:World) (hd:DevAt w d m 2 sy nw) (hf:Blk w f 274 #[.slice none 0 0,.slice none 0 0,.map none]) :
  Calls Tryz.prog 77 #[ptrV d,ptrV f,.int .i64 2,.int .i64 1] w (PNewP m d f sy nw w):=by
 have hb0:Below w.heap.size w (w.alloc (.cells #[.int .i64 2] 3)).drew:=((Below.refl _ w).alloc (Nat.le_refl _) _).drew
 have bx:Blk (w.alloc (.cells #[.int .i64 2] 3)).drew w.heap.size 3 #[.int .i64 2]:=(Blk.new _ _ _).drew
 have x0:(w.alloc (.cells #[.int .i64 2] 3)).drew.cell? ⟨w.heap.size,0,none⟩=some (.int .i64 2):=bx.cell 0
 have hL:=Hdz (devLen_any d m 2 sy nw _ (hd.keeps (S:=λ _=>False) (Keeps.of_below hb0) λ _ _ h=>h))
 have hA:=Hdz (freeAll_any f _ (hf.below' hb0))
 have hE:=Hdz (λ (w1 w2 w3:World) (p:Nat) (h1:Below w.heap.size w w1) (hp:p=w1.heap.size) e2 e hc=>pnew_end hm (w1:=w1) (w2:=w2) (w3:=w3) (e:=e) hd hf h1 hp e2 hc)
 have hzz:(w.alloc (.cells #[.int .i64 2] 3)).drew.heap.size=w.heap.size+1:=by simp
 have HB:=Hdz hb0
 have HBX:=Hdz bx
 have X0:=Hdz x0
 clear hd hf hb0 bx x0
 go_enter Tryz.func77,Tryz.ntmps77
 go_wp2_with (fail)
 have x0:=X0.out
 refine wRz ?_
 try simp only [lAz]
 refine tA 0 ?_;try simp only [lAz]
 refine tA 1 ?_;try simp only [lAz]
 refine tA 2 ?_;try simp only [lAz]
 refine tA 3 ?_;try simp only [lAz]
 refine tA 4 ?_;try simp only [lAz]
 refine tA 5 ?_;try simp only [lAz]
 refine tA 6 ?_;try simp only [lAz]
 refine rZz 7 λ K hK=>?_;go_simp;apply hK;clear hK K
 try simp only [lAz]
 refine tA 8 ?_;try simp only [lAz]
 refine tA 9 ?_;try simp only [lAz]
 refine tA 10 ?_;try simp only [lAz]
 refine tA 12 ?_;try simp only [lAz]
 refine wpAny_ready (rs:=[11,13]) (by kernel_rfl) (by simp) (aCz (λ K hK=>?_) (aCz (λ K hK=>?_) AllReady.nil))
 ·go_simp
  apply hK
  clear hK K
  refine rZz 13 λ K hK=>?_;go_simp
  (go_must (refine hL.out.mono ?_);rintro e w2 ⟨rfl,rfl⟩)
  go_simp
  apply hK
  clear hK K
  try simp only [lAz]
  refine tA 14 ?_;try simp only [lAz]
  refine tA 15 ?_;try simp only [lAz]
  refine tA 16 ?_;try simp only [lAz]
  refine tA 17 ?_;try simp only [lAz]
  refine tA 18 ?_;try simp only [lAz]
  refine tA 19 ?_;try simp only [lAz]
  refine wDz ?_
  go_wp2_with (fail)
  go_must (refine hA.out.mono ?_)
  rintro e w3 ⟨rfl,hb3⟩
  have x3:w3.cell? ⟨w.heap.size,0,none⟩=some (.int .i64 2):=(HBX.out.below' hb3).cell 0
  have hz3:=hb3.size
  go_wp2_with (fail)
  go_must (refine (containsNil_any _ _).mono ?_)
  rintro e w4 ⟨rfl,rfl⟩
  go_wp2_with (fail)
  go_must (refine (clear_any w3.heap.size d f _ (Blk.new _ _ _)).mono ?_)
  intro e w5 hc
  have HC:=Hdz hc
  obtain ⟨rfl,_⟩:=hc
  go_wp2_with (fail)
  go_ret2
  exact hE.out w3 _ w5 w3.heap.size (HB.out.trans (hb3.mono (by simp))) rfl rfl _ HC.out
 ·go_simp
  (go_must (refine hL.out.mono ?_);rintro e w2 ⟨rfl,rfl⟩)
  go_simp
  apply hK
  clear hK K
  refine rZz 11 λ K hK=>?_;go_simp;apply hK;clear hK K
  try simp only [lAz]
  refine tA 14 ?_;try simp only [lAz]
  refine tA 15 ?_;try simp only [lAz]
  refine tA 16 ?_;try simp only [lAz]
  refine tA 17 ?_;try simp only [lAz]
  refine tA 18 ?_;try simp only [lAz]
  refine tA 19 ?_;try simp only [lAz]
  refine wDz ?_
  go_wp2_with (fail)
  go_must (refine hA.out.mono ?_)
  rintro e w3 ⟨rfl,hb3⟩
  have x3:w3.cell? ⟨w.heap.size,0,none⟩=some (.int .i64 2):=(HBX.out.below' hb3).cell 0
  have hz3:=hb3.size
  go_wp2_with (fail)
  go_must (refine (containsNil_any _ _).mono ?_)
  rintro e w4 ⟨rfl,rfl⟩
  go_wp2_with (fail)
  go_must (refine (clear_any w3.heap.size d f _ (Blk.new _ _ _)).mono ?_)
  intro e w5 hc
  have HC:=Hdz hc
  obtain ⟨rfl,_⟩:=hc
  go_wp2_with (fail)
  go_ret2
  exact hE.out w3 _ w5 w3.heap.size (HB.out.trans (hb3.mono (by simp))) rfl rfl _ HC.out
def BaseP (m:Nat) (w:World) (e:Ending) (w':World):Prop:=
 ∃ d g f h sy nw,e=.returned (.tuple #[ptrV d,ptrV g,ptrV f,ptrV h,.bool true])/\DevAt w' d m 2 sy nw/\Blk w' f 274 #[.slice none 0 0,.slice none 0 0,.map none]/\w.heap.size<=d/\w.heap.size<=f/\(∀ k,sy.ownBlock=some k->w.heap.size<=k)/\(∀ k,nw.ownBlock=some k->w.heap.size<=k)/\Below w.heap.size w w'
theorem devNew3 {m:Nat} (hm:4<=m/\m<=3000) (w:World):Calls Tryz.prog 120 #[.int .i64 (m:Int)] w λ e w'=>e=.returned (.tuple #[ptrV w.heap.size,.int .i64 0])/\DevAt w' w.heap.size m 0 (.slice none 0 0) (.slice none 0 0)/\Below w.heap.size w w'/\w'.heap.size=w.heap.size+1:=
 (devNew_any m w (by omega) hm.2).mono λ e w' ⟨h1,h2⟩=>⟨h1,h2 ▸ DevAt.new m w hm.2,h2 ▸ (Below.refl _ w).alloc (Nat.le_refl _) _,by rw [<- h2];simp⟩
theorem refNew3 {m:Nat} (hm:4<=m/\m<=3000) (w:World):Calls Tryz.prog 121 #[.int .i64 (m:Int)] w λ e w'=>e=.returned (.tuple #[ptrV w.heap.size,.int .i64 0])/\Blk w' w.heap.size 265 (refDev m)/\Below w.heap.size w w'/\w'.heap.size=w.heap.size+1:=
 (refNew_any m w (by omega) hm.2).mono λ e w' ⟨h1,h2⟩=>⟨h1,h2 ▸ Blk.new _ _ _,h2 ▸ (Below.refl _ w).alloc (Nat.le_refl _) _,by rw [<- h2];simp⟩
theorem freeNew3 (w:World):Calls Tryz.prog 124 #[.slice none 0 0] w λ e w'=>e=.returned (ptrV w.heap.size)/\Blk w' w.heap.size 274 #[.slice none 0 0,.slice none 0 0,.map none]/\Below w.heap.size w w'/\w'.heap.size=w.heap.size+1:=
 (freeNew_any w).mono λ e w' ⟨h1,h2⟩=>⟨h1,h2 ▸ Blk.new _ _ _,h2 ▸ (Below.refl _ w).alloc (Nat.le_refl _) _,by rw [<- h2];simp⟩
theorem base_end {m:Nat} {w w1 w2 w3 w4 w5 w6:World} {sy nw:Value} {T:TypeId} {V:Array Value} (a1:DevAt w1 w.heap.size m 0 (.slice none 0 0) (.slice none 0 0)) (b1:Below w.heap.size w w1) (z1:w1.heap.size=w.heap.size+1)
  (b2:Below w1.heap.size w1 w2) (z2:w2.heap.size=w1.heap.size+1) (a2:Blk w2 w1.heap.size 265 (refDev m))
  (a3:DevAt w3 w.heap.size m 2 sy nw) (k3:GrowK w.heap.size (.slice none 0 0) (.slice none 0 0) sy nw w2 w3) (k4:Keeps (λ k=>k=w1.heap.size) w3 w4) (a5:Blk w5 w4.heap.size 274 #[.slice none 0 0,.slice none 0 0,.map none])
  (b5:Below w4.heap.size w4 w5) (b6:Below w5.heap.size w5 w6) :
  BaseP m w (.returned (.tuple #[ptrV w.heap.size,ptrV w1.heap.size,ptrV w4.heap.size,ptrV w6.heap.size,.bool true])) (w6.alloc (.cells V T)):=by
 have hz3:=k3.keeps.size
 have hz4:=k4.size
 have hz5:=b5.size
 have hz6:=b6.size
 have c2:Below w.heap.size w w2:=b1.trans (b2.mono (by omega))
 have c3:Below w.heap.size w w3:=c2.trans (k3.keeps.below (by omega) (λ i hi e=>by
  rcases e with e | e | e
  ·omega
  ·cases e
  ·cases e))
 have c4:Below w.heap.size w w4:=c3.trans (k4.below (by omega) (λ i hi e=>by omega))
 have c5:Below w.heap.size w w5:=c4.trans (b5.mono (by omega))
 have c6:Below w.heap.size w w6:=c5.trans (b6.mono (by omega))
 have c7:Below w.heap.size w (w6.alloc (.cells V T)):=c6.alloc (by omega) _
 have a2':Blk w3 w1.heap.size 265 (refDev m):=a2.keeps k3.keeps (λ e=>by
  rcases e with e | e | e
  ·omega
  ·cases e
  ·cases e)
 have a4:DevAt w4 w.heap.size m 2 sy nw:=a3.keeps k4 (λ k hk e=>by
  subst e
  rcases hk with e | e | e
  ·omega
  ·obtain ⟨cs,hr⟩:=a3.srow
   exact own_ne hr a2' (by decide) _ e rfl
  ·obtain ⟨cs,hr⟩:=a3.nrow
   exact own_ne hr a2' (by decide) _ e rfl)
 have b46:Below w4.heap.size w4 (w6.alloc (.cells V T)):=(b5.trans (b6.mono (by omega))).alloc (by omega) _
 have a6:DevAt (w6.alloc (.cells V T)) w.heap.size m 2 sy nw:=a4.keeps (S:=λ _=>False) (Keeps.of_below b46) λ _ _ h=>h
 refine ⟨w.heap.size,w1.heap.size,w4.heap.size,w6.heap.size,sy,nw,rfl,a6,(a5.below' b6).alloc _,Nat.le_refl _,by omega,λ k e=>?_,λ k e=>?_,c7⟩
 ·rcases k3.sy k e with h | h
  ·cases h
  ·omega
 ·rcases k3.nw k e with h | h
  ·cases h
  ·omega
theorem base_any {m:Nat} (hm:4<=m/\m<=3000) (w:World):Calls Tryz.prog 76 #[.int .i64 (m:Int),.int .i64 2,.slice none 0 0] w (BaseP m w):=by
 go_enter Tryz.func76,Tryz.ntmps76
 go_wp2_with (fail)
 go_must (refine (devNew3 hm w).mono ?_)
 rintro e w1 ⟨rfl,a1,b1,z1⟩
 have A1:=Hdz a1
 have B1:=Hdz b1
 have Z1:=Hdz z1
 clear a1 b1 z1
 go_wp2_with (fail)
 go_must (refine (refNew3 hm w1).mono ?_)
 rintro e w2 ⟨rfl,a2,b2,z2⟩
 have a1':DevAt w2 w.heap.size m 0 (.slice none 0 0) (.slice none 0 0):=A1.out.keeps (S:=λ _=>False) (Keeps.of_below b2) λ _ _ h=>h
 have A2:=Hdz a2
 have B2:=Hdz b2
 have Z2:=Hdz z2
 have hG:=Hdz (devTo_any w.heap.size m 0 2 _ _ w2 a1' (by omega) (by omega))
 clear a2 b2 z2 a1'
 go_wp2_with (fail)
 go_must (refine hG.out.mono ?_)
 rintro e w3 ⟨rfl,sy,nw,a3,k3⟩
 have hR:=Hdz (refGrow_any hm (A2.out.keeps k3.keeps (λ e=>by
  have:=Z1.out
  rcases e with e | e | e
  ·omega
  ·cases e
  ·cases e)))
 have A3:=Hdz a3
 have K3:=Hdz k3
 clear a3 k3 hG
 go_wp2_with (fail)
 go_must (refine hR.out.mono ?_)
 rintro e w4 ⟨rfl,k4⟩
 have K4:=Hdz k4
 clear k4 hR
 go_wp2_with (fail)
 go_must (refine (freeNew3 w4).mono ?_)
 rintro e w5 ⟨rfl,a5,b5,z5⟩
 have A5:=Hdz a5
 have B5:=Hdz b5
 clear a5 b5 z5
 go_wp2_with (fail)
 go_must (refine (refSorted_nil w5).mono ?_)
 rintro e w6 ⟨rfl,b6⟩
 have B6:=Hdz b6
 clear b6
 go_wp2_with (fail)
 refine bodyPost_ret (v:=.tuple #[ptrV w.heap.size,ptrV w1.heap.size,ptrV w4.heap.size,ptrV w6.heap.size,.bool true]) (by simp [results,Tryz.results76,go_sem]) rfl ?_
 exact base_end A1.out B1.out Z1.out B2.out Z2.out A2.out A3.out K3.out K4.out A5.out B5.out B6.out
def TNewP (m p:Nat) (c:Pc) (w:World) (e:Ending) (w':World):Prop:=
 ∃ root c',e=.returned (.tuple #[.int .i64 root,.int .i64 0])/\PgOk w' p c' m (updS (λ _=>none) root (some ⟨2,0,[]⟩)) 1/\PgK p c c' w w'
theorem treeNew_any {m:Nat} (hm:4<=m/\m<=3000) (p:Nat) (c:Pc) (w:World) (h:PgOk w p c m (λ _=>none) 0):Calls Tryz.prog 78 #[ptrV p] w (TNewP m p c w):=by
 have hM:=Hdz (make_any ⟨2,0,[]⟩ w h (by simp [Pg.ok]) (by omega))
 clear h
 go_enter Tryz.func78,Tryz.ntmps78
 go_wp2_with (fail)
 go_must (refine hM.out.mono ?_)
 rintro e w1 ⟨root,c',rfl,_,_,_,hp,hk⟩
 have HP:=Hdz hp
 have HK:=Hdz hk
 clear hp hk
 go_wp2_with (fail)
 go_ret2
 exact ⟨root,c',rfl,HP.out,HK.out⟩
def BeginM (m:Nat) (w:World) (e:Ending) (w':World):Prop:=
 ∃ d f p c root,e=.returned (.tuple #[ptrV d,ptrV f,ptrV p,.int .i64 root,.bool true])/\PgOk w' p c m (updS (λ _=>none) root (some ⟨2,0,[]⟩)) 1/\(∀ k,c.S p k->w.heap.size<=k)/\Below w.heap.size w w'
theorem begin_m {m:Nat} (hm:4<=m/\m<=3000) (w:World):Calls Tryz.prog 32 #[.int .i64 (m:Int)] w (BeginM m w):=by
 go_enter Tryz.func32,Tryz.ntmps32
 go_wp2_with (fail)
 go_must (refine (base_any hm w).mono ?_)
 rintro e w1 ⟨d,g,f,h,sy,nw,rfl,hd,hf,d1,d2,d3,d4,b1⟩
 have hN:=Hdz (pagerNew_any hm d f sy nw w1 hd hf)
 have B1:=Hdz b1
 clear hd hf b1
 go_wp2_with (fail)
 go_must (refine hN.out.mono ?_)
 rintro e w2 ⟨p,c,rfl,hp,hs,b2⟩
 have hT:=Hdz (treeNew_any hm p c w2 hp)
 have hz1:=B1.out.size
 have HS:=Hdz (show ∀ k,c.S p k->w.heap.size<=k from λ k hk=>by
  rcases hs k hk with h | h | h | h | h
  ·omega
  ·omega
  ·exact d3 k h
  ·exact d4 k h
  ·omega)
 have B2:=Hdz b2
 clear hp hs b2 hN
 go_wp2_with (fail)
 go_must (refine hT.out.mono ?_)
 rintro e w3 ⟨root,c',rfl,hp,hk⟩
 have HP:=Hdz hp
 have HK:=Hdz hk
 clear hp hk hT
 go_wp2_with (fail)
 refine bodyPost_ret (v:=.tuple #[ptrV d,ptrV f,ptrV p,.int .i64 root,.bool true]) (by simp [results,Tryz.results32,go_sem]) rfl ?_
 have hz2:=B2.out.size
 refine ⟨d,f,p,c',root,rfl,HP.out,λ k hk=>?_,?_⟩
 ·rcases HK.out.sub k hk with h | h
  ·exact HS.out k h
  ·omega
 ·exact (B1.out.trans (B2.out.mono hz1)).trans (HK.out.keeps.below (by omega) λ i hi e=>by have:=HS.out i e;omega)
abbrev BeginP (w:World) (e:Ending) (w':World):Prop:=BeginM 3000 w e w'
theorem begin_any (w:World):Calls Tryz.prog 32 #[.int .i64 3000] w (BeginP w):=begin_m (m:=3000) (by omega) w
end Go.Ev
