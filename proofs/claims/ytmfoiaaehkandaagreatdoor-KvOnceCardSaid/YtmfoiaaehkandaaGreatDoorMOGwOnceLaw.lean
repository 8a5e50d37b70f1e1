/-
  Texts of this claim.
-/
import Derived.Test.YtmfoiaaehkandaaGreatDoorMOGwKv5S
import Derived.Laws.BitsLemmas
set_option linter.unusedVariables false
set_option linter.unusedSimpArgs false
set_option maxHeartbeats 16000000
set_option maxRecDepth 100000
namespace Go.Ev
open Go.Proofs Go.RowKit
structure Tidy (o:KOp):Prop where
  kind:o.kind=1\/o.kind=2\/o.kind=3
  ses:1<=o.ses
  seq:1<=o.seq
  old:o.kind≠3->o.old=[]
  val:o.kind=2->o.val=[]
theorem Tidy.right {o:KOp} (h:Tidy o):rightK o=keyK o.key:=by
  obtain ⟨kind,ses,seq,key,val,old⟩:=o
  obtain ⟨h1,h2,h3,h4,h5⟩:=h
  simp only at h1 h2 h3 h4 h5
  have a:¬ ses<1:=by omega
  have b:¬ seq<1:=by omega
  rcases h1 with rfl | rfl | rfl
  · have:=h4 (by decide);subst this;simp [rightK,plainO,a,b]
  · have:=h4 (by decide);subst this;have:=h5 rfl;subst this;simp [rightK,plainO,a,b]
  · simp [rightK,plainO,a,b]
theorem Tidy.valid {o:KOp} (h:Tidy o):validK o=if keyK o.key=true then (if 900<o.val.length\/900<o.old.length then 2 else 0) else 1:=by
  unfold validK
  rw [h.right]
  cases keyK o.key
  · simp
  · simp
theorem valid22_any (o:KOp) (w:World) (ht:Tidy o) (hk:o.key.length<=9223372036854775807) (hv:o.val.length<=9223372036854775807) (ho:o.old.length<=9223372036854775807) :
    Calls Tryz.prog 24 #[kopV o] w λ e w'=>e=.returned (.int .i64 (validK o))/\Below w.heap.size w w':=by
  rw [ht.valid]
  obtain ⟨kind,ses,seq,key,val,old⟩:=o
  obtain ⟨h1,h2,h3,h4,h5⟩:=ht
  simp only at h1 h2 h3 h4 h5 hk hv ho ⊢
  obtain ⟨nk,hnk⟩:∃ n,key.length=n:=⟨_,rfl⟩
  obtain ⟨nv,hnv⟩:∃ n,val.length=n:=⟨_,rfl⟩
  obtain ⟨no,hno⟩:∃ n,old.length=n:=⟨_,rfl⟩
  have hkk:keyK key=(decide (1<=nk) && decide (nk<=38)):=by unfold keyK;rw [hnk]
  rw [hkk,hnv,hno]
  have b0:Blk (w.alloc (.cells #[.int .i64 kind,.int .i64 ses,.int .i64 seq,strV key,strV val,strV old] 76)) w.heap.size 76 #[.int .i64 kind,.int .i64 ses,.int .i64 seq,strV key,strV val,strV old]:=Blk.new _ _ _
  have c0:=b0.cell 0
  have c1:=b0.cell 1
  have c2:=b0.cell 2
  have c3:=b0.cell 3
  have c4:=b0.cell 4
  have c5:=b0.cell 5
  have HB:Hid (Below w.heap.size w (w.alloc (.cells #[.int .i64 kind,.int .i64 ses,.int .i64 seq,strV key,strV val,strV old] 76))):=(Below.refl _ _).alloc (Nat.le_refl _) _
  have s1:¬ ses<1:=by omega
  have s2:¬ seq<1:=by omega
  rw [hnk] at hk
  rw [hnv] at hv
  rw [hno] at ho
  have hw:(nk:Int)<1\/(¬ (nk:Int)<1/\(38:Int)<(nk:Int))\/(¬ (nk:Int)<1/\¬ (38:Int)<(nk:Int)/\(900:Int)<(nv:Int))\/(¬ (nk:Int)<1/\¬ (38:Int)<(nk:Int)/\¬ (900:Int)<(nv:Int)/\(900:Int)<(no:Int))\/(¬ (nk:Int)<1/\¬ (38:Int)<(nk:Int)/\¬ (900:Int)<(nv:Int)/\¬ (900:Int)<(no:Int)):=by omega
  clear b0 h2 h3 hkk
  have HN:=Hdz (Anz hnk (Anz hnv hno))
  rcases h1 with rfl | rfl | rfl
  case' inl =>
    have e5:=h4 (by decide)
    subst e5
    have z5:(([]:Bytes)==[])=true:=rfl
  case' inr.inl =>
    have e5:=h4 (by decide)
    subst e5
    have e4:=h5 rfl
    subst e4
  all_goals
    clear h4 h5
    rcases hw with d0 | ⟨d0,d1⟩ | ⟨d0,d1,d2⟩ | ⟨d0,d1,d2,d3⟩ | ⟨d0,d1,d2,d3⟩
  all_goals first | (exfalso;have h:=HN.out;simp only [List.length_nil] at h;omega) | skip
  all_goals
    go_enter Tryz.func24,Tryz.ntmps24
    go_wp2_with (fail)
    go_ret
    exact ⟨rfl,HB.out⟩
def PlainP (x:Value) (t:List Pair) (o:KOp) (B:Nat) (w:World) (e:Ending) (w':World):Prop:=
  ∃ u,e=.returned u/\w'.ownsRow B 139 2 u (chgK (0,t) o).2.2.2.length (pairsCs (chgK (0,t) o).2.2.2)/\Below w.heap.size w w'/\∀ k,u.ownBlock=some k->x.ownBlock=some k\/w.heap.size<=k
theorem plain_any (B:Nat) (x:Value) (t:List Pair) (o:KOp) (w:World) (ht:Tidy o) (hx:w.ownsRow B 139 2 x t.length (pairsCs t)) (hB:B<=w.heap.size) (hr:Rising t) (hn:t.length<=9999) (hks:∀ q∈t,q.1.length<=100000) (hk1:1<=o.key.length) (hk2:o.key.length<=40) (hv:o.val.length<=2000) (ho:o.old.length<=2000) :
    Calls Tryz.prog 25 #[x,kopV o] w (PlainP x t o B w):=by
  obtain ⟨kind,ses,seq,key,val,old⟩:=o
  have h1:=ht.kind
  simp only at h1 hk1 hk2 hv ho ⊢
  obtain ⟨A,c,rfl,-⟩:=Sl.of_own hx
  obtain ⟨w1,hw1⟩:=nmz (w.alloc (.cells #[.int .i64 kind,.int .i64 ses,.int .i64 seq,strV key,strV val,strV old] 76))
  obtain ⟨g,hg⟩:=nmz (w.heap.size)
  have hb:Below w.heap.size w w1:=by rw [<- hw1];exact (Below.refl _ _).alloc (Nat.le_refl _) _
  have b0:Blk w1 g 76 #[.int .i64 kind,.int .i64 ses,.int .i64 seq,strV key,strV val,strV old]:=by rw [<- hw1,<- hg];exact Blk.new _ _ _
  have HBl:=Hdz b0
  have HW:=Hdz (Anz hw1 hg)
  have HB:=Hdz hb
  have c3:=b0.cell 3
  have HX:Hid (∀ W,Below w1.heap.size w1 W->W.ownsRow B 139 2 (.slice A t.length c) t.length (pairsCs t)):=λ W hW=>own_below (own_below hx hb) hW
  have HPut:Hid (∀ W,Below w1.heap.size w1 W->Calls Tryz.prog 73 #[.slice A t.length c,strV key,strV val] W (RefPutP key val t W)):=λ W hW=>refPut_any B _ t key val W (HX.out W hW) (by omega) hks hk1 hk2 hv
  have HDel:Hid (∀ W,Below w1.heap.size w1 W->Calls Tryz.prog 74 #[.slice A t.length c,strV key] W (RefDelP (.slice A t.length c) key t B W)):=λ W hW=>refDel_any B _ t key W (HX.out W hW) (Nat.le_trans hB (Nat.le_trans hb.size hW.size)) hr (by omega) hks hk1 hk2
  have hGet:=refGet_any B _ t key w1 (own_below hx hb) hr (by omega) hks hk1 hk2
  have HBs:=Hdz hB
  unfold RefGetP at hGet
  cases hp:getP key t with
  | none =>
    rw [hp] at hGet
    have HGet:=Hdz hGet
    have HP:=Hdz hp
    clear hGet hp b0 hx hr hks hn hk1 hk2 hv ho hb hw1 hg
    rcases h1 with rfl | rfl | rfl
    all_goals
      go_enter Tryz.func25,Tryz.ntmps25
      go_wp2_with (fail)
      rw [HW.out.1,HW.out.2]
      go_must (refine HGet.out.mono ?_)
      rintro e w2 ⟨rfl,hb2⟩
      have b2:=HBl.out.below' hb2
      have y0:=b2.cell 0
      have y3:=b2.cell 3
      have y4:=b2.cell 4
      have y5:=b2.cell 5
      have HB2:=Hdz (HB.out.trans (hb2.mono HB.out.size))
      have HB1:=Hdz hb2
      clear b2 hb2
      go_wp2_with (fail)
    · go_must (refine (HPut.out _ HB1.out).mono ?_)
      rintro e w3 ⟨u,rfl,hu,hb3⟩
      obtain ⟨A3,c3,rfl,-⟩:=Sl.of_own hu
      go_wp2_with (fail)
      go_ret
      exact ⟨_,rfl,own_base hu (Nat.le_trans HBs.out HB2.out.size),HB2.out.trans (hb3.mono HB2.out.size),λ k e=>.inr (Nat.le_trans HB2.out.size (hu.lt k e).1)⟩
    · go_must (refine (HDel.out _ HB1.out).mono ?_)
      rintro e w3 ⟨u,er,rfl,hu,hb3,hat⟩
      obtain ⟨A3,c3,rfl,-⟩:=Sl.of_own hu
      go_wp2_with (fail)
      go_ret
      refine ⟨_,rfl,?_,HB2.out.trans (hb3.mono HB2.out.size),λ k e=>(hat k e).imp id λ h=>Nat.le_trans HB2.out.size h⟩
      have e1:(chgK (0,t) ⟨2,ses,seq,key,val,old⟩).2.2.2=delP key t:=by
        rw [delP_out λ q hq e=>by have:=getP_none_out HP.out q hq;exact this e]
        simp [chgK,HP.out]
      rw [e1]
      exact hu
    · go_ret
      refine ⟨_,rfl,?_,HB2.out,λ k e=>.inl e⟩
      have e1:(chgK (0,t) ⟨3,ses,seq,key,val,old⟩).2.2.2=t:=by simp [chgK,HP.out]
      rw [e1]
      exact HX.out _ HB1.out
  | some v =>
    rw [hp] at hGet
    have HGet:=Hdz hGet
    have HP:=Hdz hp
    clear hGet hp b0 hx hr hks hn hk1 hk2 hv ho hb hw1 hg
    by_cases hvo:v=old
    case' pos=>have hq:(v==old)=true:=beq_iff_eq.2 hvo
    case' neg=>have hq:(v==old)=false:=beq_eq_false_iff_ne.2 hvo
    all_goals
      have HVO:=Hdz hvo
      clear hvo
      rcases h1 with rfl | rfl | rfl
    all_goals
      go_enter Tryz.func25,Tryz.ntmps25
      go_wp2_with (fail)
      rw [HW.out.1,HW.out.2]
      go_must (refine HGet.out.mono ?_)
      rintro e w2 ⟨rfl,hb2⟩
      have b2:=HBl.out.below' hb2
      have y0:=b2.cell 0
      have y3:=b2.cell 3
      have y4:=b2.cell 4
      have y5:=b2.cell 5
      have HB2:=Hdz (HB.out.trans (hb2.mono HB.out.size))
      have HB1:=Hdz hb2
      clear b2 hb2
      go_wp2_with (fail)
    all_goals first
      | (refine (HPut.out _ HB1.out).mono ?_
         rintro e w3 ⟨u,rfl,hu,hb3⟩
         obtain ⟨A3,c3,rfl,-⟩:=Sl.of_own hu
         go_wp2_with (fail)
         go_ret
         refine ⟨_,rfl,?_,HB2.out.trans (hb3.mono HB2.out.size),λ k e=>.inr (Nat.le_trans HB2.out.size (hu.lt k e).1)⟩
         have h:=own_base hu (Nat.le_trans HBs.out HB2.out.size)
         first
           | exact h
           | (have e1:(chgK (0,t) ⟨3,ses,seq,key,val,old⟩).2.2.2=insP key val t:=by simp [chgK,HP.out,HVO.out]
              rw [e1];exact h))
      | (refine (HDel.out _ HB1.out).mono ?_
         rintro e w3 ⟨u,er,rfl,hu,hb3,hat⟩
         obtain ⟨A3,c3,rfl,-⟩:=Sl.of_own hu
         go_wp2_with (fail)
         go_ret
         refine ⟨_,rfl,?_,HB2.out.trans (hb3.mono HB2.out.size),λ k e=>(hat k e).imp id λ h=>Nat.le_trans HB2.out.size h⟩
         have e1:(chgK (0,t) ⟨2,ses,seq,key,val,old⟩).2.2.2=delP key t:=by simp [chgK,HP.out]
         rw [e1]
         exact hu)
      | (go_ret
         refine ⟨_,rfl,?_,HB2.out,λ k e=>.inl e⟩
         have e1:(chgK (0,t) ⟨3,ses,seq,key,val,old⟩).2.2.2=t:=by simp [chgK,HP.out,HVO.out]
         rw [e1]
         exact HX.out _ HB1.out)
structure RunK (s:KSt) (i B:Nat):Prop where
 puts:s.1.1<=i
 len:s.1.2.length<=i
 vals:sumV s.1.2<=B
 small:∀ x∈s.1.2,x.2.length<=900
 num:s.2.1<=i
theorem RunK.zero:RunK ((0,[]),0,[]) 0 0:=⟨Nat.le_refl _,Nat.le_refl _,Nat.le_refl _,λ x hx=>(by cases hx),Nat.le_refl _⟩
theorem RunK.more {s:KSt} {i j B C:Nat} (h:RunK s i B) (hi:i<=j) (hb:B<=C):RunK s j C:=⟨Nat.le_trans h.puts hi,Nat.le_trans h.len hi,Nat.le_trans h.vals hb,h.small,Nat.le_trans h.num hi⟩
theorem insP_memR {k v:Bytes}:∀ {l:List Pair} {x:Pair},x∈insP k v l->x=(k,v)\/x∈l
 | [],x,h=>by simp [insP] at h;exact .inl h
 | p :: l,x,h=>by
  simp only [insP] at h
  split at h
  ·rcases List.mem_cons.1 h with rfl | h
   ·exact .inr (List.mem_cons_self ..)
   ·rcases insP_memR h with h | h
    ·exact .inl h
    ·exact .inr (List.mem_cons_of_mem _ h)
  ·split at h
   ·rcases List.mem_cons.1 h with rfl | h
    ·exact .inl rfl
    ·exact .inr h
   ·rcases List.mem_cons.1 h with rfl | h
    ·exact .inl rfl
    ·exact .inr (List.mem_cons_of_mem _ h)
theorem delP_memR {k:Bytes}:∀ {l:List Pair} {x:Pair},x∈delP k l->x∈l
 | [],x,h=>h
 | p :: l,x,h=>by
  simp only [delP] at h
  split at h
  ·exact List.mem_cons_of_mem _ h
  ·rcases List.mem_cons.1 h with rfl | h
   ·exact List.mem_cons_self ..
   ·exact List.mem_cons_of_mem _ (delP_memR h)
theorem RunK.put {D:DB} {n i B:Nat} {l l':List (Nat × Ses)} (h:RunK (D,n,l) i B) (k v:Bytes) (hv:v.length<=900):RunK ((D.1+1,insP k v D.2),n,l') (i+1) (B+v.length):=by
 obtain ⟨h1,h2,h3,h4,h5⟩:=h
 simp only at h1 h2 h3 h4 h5
 refine ⟨by simp only;omega,?_,?_,λ x hx=>?_,by simp only;omega⟩
 ·have:=(insP_len (k:=k) (v:=v) D.2).1;simp only;omega
 ·have:=sumV_ins k v D.2;simp only;omega
 ·rcases insP_memR hx with rfl | hx
  ·exact hv
  ·exact h4 x hx
theorem RunK.chg {D:DB} {n i B:Nat} {l l':List (Nat × Ses)} (h:RunK (D,n,l) i B) (o:KOp) (hv:o.val.length<=900):RunK ((chgK D o).2.2,n,l') (i+1) (B+o.val.length):=by
 have hs:RunK (D,n,l') (i+1) (B+o.val.length):=RunK.more (i:=i) (B:=B) ⟨h.puts,h.len,h.vals,h.small,h.num⟩ (by omega) (by omega)
 unfold chgK
 split
 ·exact h.put o.key o.val hv
 ·split
  ·exact hs
  ·split
   ·refine ⟨hs.puts,Nat.le_trans (delP_le o.key D.2) hs.len,Nat.le_trans (sumV_del o.key D.2) hs.vals,λ x hx=>hs.small x (delP_memR hx),hs.num⟩
   ·split
    ·exact hs
    ·exact h.put o.key o.val hv
theorem RunK.step {s:KSt} {i B:Nat} (h:RunK s i B) (o:KOp):RunK (doK s o).2 (i+1) (B+o.val.length):=by
 have hs:RunK s (i+1) (B+o.val.length):=h.more (by omega) (by omega)
 unfold doK
 split
 ·exact hs
 ·rename_i hv
  have hval:=(validK_zero (Decidable.not_not.1 hv)).2.1
  split
  ·exact hs
  ·split
   ·exact ⟨hs.puts,hs.len,hs.vals,hs.small,by have:=h.num;simp only;omega⟩
   ·split
    ·exact hs
    ·split
     ·exact ⟨hs.puts,hs.len,hs.vals,hs.small,hs.num⟩
     ·split
      ·exact hs
      ·split
       ·exact hs
       ·exact RunK.chg (l:=s.2.2) h o hval
theorem RunK.room {s:KSt} {i B:Nat} (h:RunK s i B) (o:KOp) (hi:i<=210) (hB:B+o.val.length<=61000):ndN (s.1.1+1) (insP o.key o.val s.1.2)<=300000:=by
 have h1:=h.puts
 have h2:=(insP_len (k:=o.key) (v:=o.val) s.1.2).1
 have h3:=h.len
 have h4:=sumV_ins o.key o.val s.1.2
 have h5:=h.vals
 unfold ndN
 omega
theorem i64_and3 (n:Int):bits .and .i64 n 3=n % 4:=by
 have h3:(BitVec.ofInt 64 3).toNat=2 ^ 2-1:=by decide
 have key:(BitVec.ofInt 64 n &&& BitVec.ofInt 64 3).toNat=(n % ((2 ^ 64:Nat):Int)).toNat % 2 ^ 2:=by
  rw [BitVec.toNat_and,BitVec.toNat_ofInt,h3,Nat.and_two_pow_sub_one_eq_mod]
 show IntKind.i64.wrap ((BitVec.ofInt 64 n &&& BitVec.ofInt 64 3).toNat:Nat)=n % 4
 rw [key,IntKind.wrap_i64]
 omega
theorem i64_and1 (n:Int):bits .and .i64 n 1=n % 2:=by
 have h3:(BitVec.ofInt 64 1).toNat=2 ^ 1-1:=by decide
 have key:(BitVec.ofInt 64 n &&& BitVec.ofInt 64 1).toNat=(n % ((2 ^ 64:Nat):Int)).toNat % 2 ^ 1:=by
  rw [BitVec.toNat_and,BitVec.toNat_ofInt,h3,Nat.and_two_pow_sub_one_eq_mod]
 show IntKind.i64.wrap ((BitVec.ofInt 64 n &&& BitVec.ofInt 64 1).toNat:Nat)=n % 2
 rw [key,IntKind.wrap_i64]
 omega
def tidyN (k:Int):Int:=if k % 4=2 then 2 else if k % 4=3 then 3 else 1
theorem tidyN_cases (k:Int):tidyN k=1\/tidyN k=2\/tidyN k=3:=by
 unfold tidyN
 split
 ·exact .inr (.inl rfl)
 ·split
  ·exact .inr (.inr rfl)
  ·exact .inl rfl
theorem tidyN_steps {k a b c d:Int} (ha:k % 4=a) (hb:a+3=b) (hc:b % 4=c) (hd:c % 3=d):1+d=tidyN k:=by
 unfold tidyN
 rw [ha]
 have:a=0\/a=1\/a=2\/a=3:=by omega
 rcases this with rfl | rfl | rfl | rfl
 ·rw [if_neg (by decide),if_neg (by decide)];omega
 ·rw [if_neg (by decide),if_neg (by decide)];omega
 ·rw [if_pos rfl];omega
 ·rw [if_neg (by decide),if_pos rfl];omega
def tidyO (o:KOp) (i:Nat):KOp:=⟨tidyN o.kind,((1+i % 2:Nat):Int),((1+i / 2:Nat):Int),o.key,if tidyN o.kind=2 then [] else o.val,if tidyN o.kind=3 then o.old else []⟩
theorem tidy_ok (o:KOp) (i:Nat):Tidy (tidyO o i):=⟨tidyN_cases _,by simp only [tidyO];omega,by simp only [tidyO];omega,λ h=>if_neg h,λ h=>if_pos h⟩
theorem tidy_good {o:KOp} (h:GoodK o) {i:Nat} (hi:i<=100000):GoodK (tidyO o i):=by
 obtain ⟨h1,h2,h3,h4,h5⟩:=h
 refine ⟨⟨by simp only [tidyO];omega,by simp only [tidyO];omega⟩,⟨by simp only [tidyO];omega,by simp only [tidyO];omega⟩,h3,?_,?_⟩
 ·simp only [tidyO];split<;>simp_all
 ·simp only [tidyO];split<;>simp_all
theorem tidy_val (o:KOp) (i:Nat):(tidyO o i).val.length<=o.val.length:=by simp only [tidyO];split<;>simp
theorem chg_snd (D:DB) (o:KOp):(chgK D o).2.2.2=(chgK (0,D.2) o).2.2.2:=by
 unfold chgK
 split
 ·rfl
 ·simp only
  split
  ·rfl
  ·split
   ·rfl
   ·split<;>rfl
abbrev Rep:=Int × Bytes × Int
def two (x y:Ses):List (Nat × Ses):=[(1,x),(2,y)]
structure Half (ops:List KOp) (i b:Nat) (first:List Rep) (x:Ses):Prop where
 num:x.num=0
 at':(x.seq=0/\∀ j (h:j<ops.length),j<i->j % 2=b->validK (tidyO ops[j] j)≠0) ∨
  ∃ j,∃ h:j<ops.length,j<i/\j % 2=b/\x.seq=((1+j / 2:Nat):Int)/\first[j]? = some (x.err,x.val,0)/\∀ j' (h:j'<ops.length),j'<i->j' % 2=b->validK (tidyO ops[j'] j')=0->j'<=j
structure OnceK (ops:List KOp) (i:Nat) (s:KSt) (first:List Rep) (x y:Ses):Prop where
 st:s.2.1=2/\s.2.2=two x y
 len:first.length=i
 a:Half ops i 0 first x
 b:Half ops i 1 first y
section
variable {ops:List KOp} {i:Nat} {s:KSt} {first:List Rep} {x y:Ses}
theorem OnceK.zero (D:DB):OnceK ops 0 (D,2,two ⟨0,0,0,0,[]⟩ ⟨0,0,0,0,[]⟩) [] ⟨0,0,0,0,[]⟩ ⟨0,0,0,0,[]⟩:=
 ⟨⟨rfl,rfl⟩,rfl,⟨rfl,.inl ⟨rfl,λ j _ h=>by omega⟩⟩,⟨rfl,.inl ⟨rfl,λ j _ h=>by omega⟩⟩⟩
theorem Half.keep {b:Nat} {r:Rep} (h:Half ops i b first x) (hl:first.length=i) (hi:i<ops.length) (hn:i % 2=b->validK (tidyO ops[i] i)≠0):Half ops (i+1) b (first++[r]) x:=by
 refine ⟨h.num,?_⟩
 rcases h.at' with ⟨h1,h2⟩ | ⟨j,hj,h1,h2,h3,h4,h5⟩
 ·refine .inl ⟨h1,λ j h3 h4 h5=>?_⟩
  by_cases he:j=i
  ·subst he;exact hn h5
  ·exact h2 j h3 (by omega) h5
 ·refine .inr ⟨j,hj,by omega,h2,h3,?_,λ j' h6 h7 h8 h9=>?_⟩
  ·rw [List.getElem?_append_left (by omega)];exact h4
  ·by_cases he:j'=i
   ·subst he;exact absurd h9 (hn h8)
   ·exact h5 j' h6 (by omega) h8 h9
theorem Half.put {b:Nat} {e:Int} {v:Bytes} (hl:first.length=i) (hi:i<ops.length) (hb:i % 2=b) (w:Int):Half ops (i+1) b (first++[(e,v,0)]) ⟨w,((1+i / 2:Nat):Int),e,0,v⟩:=
 ⟨rfl,.inr ⟨i,hi,by omega,hb,rfl,by simp [<- hl],λ j' _ h _ _=>by omega⟩⟩
theorem Half.less {b:Nat} (h:Half ops i b first x) (hb:i % 2=b):x.seq<((1+i / 2:Nat):Int):=by
 rcases h.at' with ⟨h1,_⟩ | ⟨j,hj,h1,h2,h3,_⟩
 ·rw [h1];omega
 ·rw [h3];omega
theorem OnceK.skip (h:OnceK ops i s first x y) (hi:i<ops.length) (hv:validK (tidyO ops[i] i)≠0) (r:Rep):OnceK ops (i+1) s (first++[r]) x y:=
 ⟨h.st,by rw [List.length_append,h.len];rfl,h.a.keep h.len hi λ _=>hv,h.b.keep h.len hi λ _=>hv⟩
theorem OnceK.go (h:OnceK ops i s first x y) (hi:i<ops.length) (hi2:i<=100000) (hv:validK (tidyO ops[i] i)=0) :
  (doK s (tidyO ops[i] i)).1=((chgK s.1 (tidyO ops[i] i)).1,(chgK s.1 (tidyO ops[i] i)).2.1,0)/\(doK s (tidyO ops[i] i)).2.1=(chgK s.1 (tidyO ops[i] i)).2.2/\∃ x' y',OnceK ops (i+1) (doK s (tidyO ops[i] i)).2 (first++[(doK s (tidyO ops[i] i)).1]) x' y'/\(i % 2=0->x'.seq=((1+i / 2:Nat):Int)/\y'=y)/\(i % 2=1->y'.seq=((1+i / 2:Nat):Int)/\x'=x):=by
 obtain ⟨D,n,l⟩:=s
 obtain ⟨⟨hn,hl⟩,h2,ha,hb⟩:=h
 simp only at hn hl
 subst hn hl
 have ht:=tidy_ok ops[i] i
 have k4:¬ (tidyO ops[i] i).kind=4:=by rcases ht.kind with h | h | h<;>omega
 have k5:¬ (tidyO ops[i] i).kind=5:=by rcases ht.kind with h | h | h<;>omega
 have k6:¬ (tidyO ops[i] i).kind=6:=by rcases ht.kind with h | h | h<;>omega
 have hses:(tidyO ops[i] i).ses=((1+i % 2:Nat):Int):=rfl
 have hseq:(tidyO ops[i] i).seq=((1+i / 2:Nat):Int):=rfl
 have hn1:(((1+i % 2:Nat):Int)).toNat=1+i % 2:=rfl
 rcases Nat.mod_two_eq_zero_or_one i with hm | hm
 ·have hlk:lookS (two x y) (tidyO ops[i] i).ses=some x:=by rw [hses,hm];rfl
  have hlt:=ha.less hm
  have hd:doK (D,2,two x y) (tidyO ops[i] i)=(((chgK D (tidyO ops[i] i)).1,(chgK D (tidyO ops[i] i)).2.1,0),((chgK D (tidyO ops[i] i)).2.2,2,two ⟨x.who,((1+i / 2:Nat):Int),(chgK D (tidyO ops[i] i)).1,0,(chgK D (tidyO ops[i] i)).2.1⟩ y)):=by
   unfold doK
   rw [if_neg (by simp [hv]),if_neg k4,if_neg k5,hlk]
   simp only
   rw [if_neg k6,hseq,if_neg (by omega),if_neg (by omega),hses,hn1,hm]
   rfl
  rw [hd]
  exact ⟨rfl,rfl,_,_,⟨⟨rfl,rfl⟩,by rw [List.length_append,h2];rfl,Half.put h2 hi hm _,hb.keep h2 hi λ e=>by omega⟩,λ _=>⟨rfl,rfl⟩,λ e=>by omega⟩
 ·have hlk:lookS (two x y) (tidyO ops[i] i).ses=some y:=by rw [hses,hm];rfl
  have hlt:=hb.less hm
  have hd:doK (D,2,two x y) (tidyO ops[i] i)=(((chgK D (tidyO ops[i] i)).1,(chgK D (tidyO ops[i] i)).2.1,0),((chgK D (tidyO ops[i] i)).2.2,2,two x ⟨y.who,((1+i / 2:Nat):Int),(chgK D (tidyO ops[i] i)).1,0,(chgK D (tidyO ops[i] i)).2.1⟩)):=by
   unfold doK
   rw [if_neg (by simp [hv]),if_neg k4,if_neg k5,hlk]
   simp only
   rw [if_neg k6,hseq,if_neg (by omega),if_neg (by omega),hses,hn1,hm]
   rfl
  rw [hd]
  exact ⟨rfl,rfl,_,_,⟨⟨rfl,rfl⟩,by rw [List.length_append,h2];rfl,ha.keep h2 hi λ e=>by omega,Half.put h2 hi hm _⟩,λ e=>by omega,λ _=>⟨rfl,rfl⟩⟩
theorem OnceK.again (h:OnceK ops i s first x y) {j:Nat} (hj:j<ops.length) (hji:j<i) (hv:validK (tidyO ops[j] j)=0) :
  (doK s (tidyO ops[j] j)).2=s/\∃ z:Ses,(j % 2=0->z=x)/\(j % 2=1->z=y)/\((((1+j / 2:Nat):Int)=z.seq/\first[j]? = some (doK s (tidyO ops[j] j)).1)\/(((1+j / 2:Nat):Int)<z.seq/\(doK s (tidyO ops[j] j)).1=(25,[],0))):=by
 obtain ⟨D,n,l⟩:=s
 obtain ⟨⟨hn,hl⟩,h2,ha,hb⟩:=h
 simp only at hn hl
 subst hn hl
 have ht:=tidy_ok ops[j] j
 have k4:¬ (tidyO ops[j] j).kind=4:=by rcases ht.kind with h | h | h<;>omega
 have k5:¬ (tidyO ops[j] j).kind=5:=by rcases ht.kind with h | h | h<;>omega
 have k6:¬ (tidyO ops[j] j).kind=6:=by rcases ht.kind with h | h | h<;>omega
 have hses:(tidyO ops[j] j).ses=((1+j % 2:Nat):Int):=rfl
 have hseq:(tidyO ops[j] j).seq=((1+j / 2:Nat):Int):=rfl
 have key:∀ (b:Nat) (z:Ses),j % 2=b->Half ops i b first z->lookS (two x y) (tidyO ops[j] j).ses=some z->(doK (D,2,two x y) (tidyO ops[j] j)).2=(D,2,two x y)/\((((1+j / 2:Nat):Int)=z.seq/\first[j]? = some (doK (D,2,two x y) (tidyO ops[j] j)).1)\/(((1+j / 2:Nat):Int)<z.seq/\(doK (D,2,two x y) (tidyO ops[j] j)).1=(25,[],0))):=by
  intro b z hm hz hlk
  rcases hz.at' with ⟨_,h5⟩ | ⟨j1,hj1,h3,h4,h5,h6,h7⟩
  ·exact absurd hv (h5 j hj hji hm)
  ·have hle:=h7 j hj hji hm hv
   by_cases he:j1=j
   ·subst he
    have hd:doK (D,2,two x y) (tidyO ops[j1] j1)=((z.err,z.val,z.num),(D,2,two x y)):=by
     unfold doK
     rw [if_neg (by simp [hv]),if_neg k4,if_neg k5,hlk]
     simp only
     rw [if_neg k6,hseq,if_neg (by omega),if_pos h5.symm]
    rw [hd]
    exact ⟨rfl,.inl ⟨h5.symm,by rw [h6,hz.num]⟩⟩
   ·have hlt:((1+j / 2:Nat):Int)<z.seq:=by rw [h5];omega
    have hd:doK (D,2,two x y) (tidyO ops[j] j)=((25,[],0),(D,2,two x y)):=by
     unfold doK
     rw [if_neg (by simp [hv]),if_neg k4,if_neg k5,hlk]
     simp only
     rw [if_neg k6,hseq,if_pos hlt]
    rw [hd]
    exact ⟨rfl,.inr ⟨hlt,rfl⟩⟩
 rcases Nat.mod_two_eq_zero_or_one j with hm | hm
 ·have hlk:lookS (two x y) (tidyO ops[j] j).ses=some x:=by rw [hses,hm];rfl
  obtain ⟨q1,q2⟩:=key 0 x hm ha hlk
  exact ⟨q1,x,λ _=>rfl,λ e=>by omega,q2⟩
 ·have hlk:lookS (two x y) (tidyO ops[j] j).ses=some y:=by rw [hses,hm];rfl
  obtain ⟨q1,q2⟩:=key 1 y hm hb hlk
  exact ⟨q1,y,λ e=>by omega,λ _=>rfl,q2⟩
end
end Go.Ev
