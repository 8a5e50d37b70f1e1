/-
  Texts of this claim.
-/
import Derived.Test.YtmfoiaaehkandaaGreatDoorMOGwKv5S
set_option linter.unusedVariables false
set_option linter.unusedSimpArgs false
namespace Go.Ev
open Go.Proofs Go.RowKit
section
variable {D:DB} {F:Nat->Prop} {bb q n:Nat} {l:List (Nat × Ses)} {W W':World}
set_option maxHeartbeats 16000000 in
set_option maxRecDepth 100000 in
theorem Sn.kvDo (h:Sn D F bb q n l W) (hq:q<=17000) (o:KOp) (hg:GoodK o) (hn:n+1<=99999999) (hD:∀ x∈D.2,x.2.length<=900) (hroom:ndN (D.1+1) (insP o.key o.val D.2)<=300000) :
  Calls Tryz.prog 23 #[ptrV bb,kopV o] W (KDo F bb q (D,n,l) o W):=by
 obtain ⟨W2,hW2⟩:=nmz ((W.alloc (.cells (kopA o) 76)).alloc (.cells #[.int .i64 0,strV [],.int .i64 0] 72))
 have hb2:Below W.heap.size W W2:=by rw [<- hW2];exact ((Below.refl _ _).alloc (Nat.le_refl _) _).alloc (by simp) _
 have hz2:W2.heap.size=W.heap.size+2:=by rw [<- hW2];simp
 have bo:Blk W2 W.heap.size 76 (kopA o):=by rw [<- hW2];exact (Blk.new _ _ _).alloc _
 have br:Blk W2 (W.heap.size+1) 72 #[.int .i64 0,strV [],.int .i64 0]:=by rw [<- hW2];exact Blk.new' (by simp)
 have HW:=Hdz hW2
 have HB2:=Hdz hb2
 have HZ2:=Hdz hz2
 have HO:=Hdz bo
 have HR:=Hdz br
 have HH:=Hdz h
 have HGd:=Hdz hg
 have HNn:=Hdz hn
 have HDd:=Hdz hD
 have HRoom:=Hdz hroom
 have HV:=Hdz (λ W1=>valid_k o W1 hg.2.2.1 hg.2.2.2.1 hg.2.2.2.2)
 have x0:=bo.cell 0
 have x1:=bo.cell 1
 have x2:=bo.cell 2
 have x3:=bo.cell 3
 have x4:=bo.cell 4
 have x5:=bo.cell 5
 obtain ⟨vk,hvk⟩:=nmz (validK o)
 rw [hvk] at HV
 have HVk:=Hdz hvk
 clear hW2 hb2 hz2 bo br h hg hn hD hroom hvk
 -- behind the judging of the operation
 have HIn:Hid (∀ w1,Below W2.heap.size W2 w1->Below W.heap.size W w1/\Blk w1 W.heap.size 76 (kopA o)/\Blk w1 (W.heap.size+1) 72 #[.int .i64 0,strV [],.int .i64 0]/\W.heap.size+1<w1.heap.size):=λ w1 hb=>⟨HB2.out.trans (hb.mono HB2.out.size),Blk.below' HO.out hb,Blk.below' HR.out hb,by have:=HZ2.out;have:=hb.size;omega⟩
 by_cases h0:vk=0
 case neg =>
  have hvb:(vk==0)=false:=beq_eq_false_iff_ne.2 h0
  have hvb2:(vk != 0)=true:=by simp [h0]
  have HC:Hid (doK (D,n,l) o=((vk,[],0),(D,n,l))):=by show doK _ o=_;unfold doK;rw [HVk.out];exact if_pos h0
  clear h0
  go_enter Tryz.func23,Tryz.ntmps23
  go_wp2_with (fail)
  rw [HW.out]
  go_must (refine (HV.out _).mono ?_)
  rintro e w1 ⟨rfl,hb1⟩
  obtain ⟨bl1,bo1,br1,hlt1⟩:=HIn.out w1 hb1
  have HB1:=Hdz bl1
  have HO1:=Hdz bo1
  have HR1:=Hdz br1
  have HLt1:=Hdz hlt1
  clear hb1 bl1 bo1 br1
  have HRz:=Hdz (HR1.out)
  obtain ⟨z0,z1,z2,f0,f1,f2⟩:=rep6 HRz.out
  have HE:=Sn.tell HB1.out (HH.out.inn HB1.out) (Keeps.refl _ _) HRz.out HRz.out.lt (vk) [] 0
  go_wp2_with (fail)
  refine bodyPost_ret (res_row [.int .i64 vk,strV [],.int .i64 0] rfl rfl rfl (by kernel_rfl) HE.out.1) rfl ?_
  unfold KDo
  rw [HC.out]
  exact ⟨rfl,HE.out.2.1.upto (by omega),HE.out.2.2⟩
 case pos =>
  subst h0
  obtain ⟨hr,hvl,hol⟩:=validK_zero HVk.out
  obtain ⟨r1,r2,r3,r4⟩:=rightK_key hr
  have HRk:=Hdz (Anz r3 (Anz r4 (Anz hvl hol)))
  have HV0:Hid (¬ validK o≠0):=λ e=>e HVk.out
  clear hr hvl hol r3 r4
  by_cases k4:o.kind=4
  case pos =>
   have kb:(o.kind==4)=true:=beq_iff_eq.2 k4
   have HC:Hid (doK (D,n,l) o=(((getR D.2 o.key).1,(getR D.2 o.key).2,0),(D,n,l))):=by show doK _ o=_;unfold doK;rw [if_neg HV0.out];exact if_pos k4
   have hkl:=HRk.out.1 (by omega)
   have HKl:=Hdz hkl
   obtain ⟨ge,hge⟩:=nmz ((getR D.2 o.key).1)
   obtain ⟨gv,hgv⟩:=nmz ((getR D.2 o.key).2)
   have HG:Hid (∀ w1,Below W.heap.size W w1->Calls Tryz.prog 62 #[ptrV bb,strV o.key] w1 λ e w'=>e=.returned (.tuple #[rp ge gv 0,.int .i64 0])/\Below w1.heap.size w1 w'):=λ w1 hb=>by
    have:=(HH.out.below hb).kvGet (by omega) o.key HKl.out.1 (by have:=HKl.out.2;omega)
    rwa [hge,hgv] at this
   rw [hge,hgv] at HC
   clear k4 hkl hge hgv
   go_enter Tryz.func23,Tryz.ntmps23
   go_wp2_with (fail)
   rw [HW.out]
   go_must (refine (HV.out _).mono ?_)
   rintro e w1 ⟨rfl,hb1⟩
   obtain ⟨bl1,bo1,br1,hlt1⟩:=HIn.out w1 hb1
   have HB1:=Hdz bl1
   have HO1:=Hdz bo1
   have HR1:=Hdz br1
   have HLt1:=Hdz hlt1
   have y0:=bo1.cell 0
   have y3:=bo1.cell 3
   have HG1:=Hdz (HG.out w1 bl1)
   clear hb1 bl1 bo1 br1
   go_wp2_with (fail)
   go_must (refine HG1.out.mono ?_)
   rintro e w2 ⟨rfl,hb2⟩
   have HB3:=Hdz (HB1.out.trans (hb2.mono HB1.out.size))
   have HR3:=Hdz (Blk.below' HR1.out hb2)
   clear hb2
   have HRz:=Hdz (HR3.out)
   obtain ⟨z0,z1,z2,f0,f1,f2⟩:=rep6 HRz.out
   have HE:=Sn.tell HB3.out (HH.out.inn HB3.out) (Keeps.refl _ _) HRz.out HRz.out.lt (ge) gv 0
   go_wp2_with (fail)
   refine bodyPost_ret (res_row [.int .i64 ge,strV gv,.int .i64 0] rfl rfl rfl (by kernel_rfl) HE.out.1) rfl ?_
   unfold KDo
   rw [HC.out]
   exact ⟨rfl,HE.out.2.1.upto (by omega),HE.out.2.2⟩
  case neg =>
   by_cases k5:o.kind=5
   case pos =>
    have kb4:(o.kind==4)=false:=beq_eq_false_iff_ne.2 k4
    have kb:(o.kind==5)=true:=beq_iff_eq.2 k5
    have HC:Hid (doK (D,n,l) o=((0,[],((n+1:Nat):Int)),(D,n+1,regS n o.seq l))):=by show doK _ o=_;unfold doK;rw [if_neg HV0.out,if_neg k4];exact if_pos k5
    clear k4 k5
    go_enter Tryz.func23,Tryz.ntmps23
    go_wp2_with (fail)
    rw [HW.out]
    go_must (refine (HV.out _).mono ?_)
    rintro e w1 ⟨rfl,hb1⟩
    obtain ⟨bl1,bo1,br1,hlt1⟩:=HIn.out w1 hb1
    have HB1:=Hdz bl1
    have HO1:=Hdz bo1
    have HR1:=Hdz br1
    have HLt1:=Hdz hlt1
    have y0:=bo1.cell 0
    have y2:=bo1.cell 2
    have HP:=Hdz ((HH.out.inn bl1).register (by omega) o.seq HGd.out.2.1 HNn.out)
    obtain ⟨n1,hn1⟩:=nmz (n+1)
    rw [hn1] at HP HC
    clear hb1 bl1 bo1 br1 hn1
    go_wp2_with (fail)
    go_must (refine HP.out.mono ?_)
    rintro e w2 ⟨rfl,hS2,hk2⟩
    have HS2:=Hdz (Anz hS2 hk2)
    have HLt:Hid (W.heap.size<=W.heap.size+1/\W.heap.size+1<w1.heap.size):=⟨by omega,HLt1.out⟩
    have HRz:=Hdz (HR1.out.keeps hk2 λ e=>by have:=HLt1.out;rcases e.2 with e | e<;>omega)
    obtain ⟨z0,z1,z2,f0,f1,f2⟩:=rep6 HRz.out
    clear hS2 hk2
    have HE:=Sn.tell HB1.out HS2.out.1 HS2.out.2 HRz.out HLt.out.2 (0) [] (n1:Int)
    go_wp2_with (fail)
    refine bodyPost_ret (res_row [.int .i64 0,strV [],.int .i64 (n1:Int)] rfl rfl rfl (by kernel_rfl) HE.out.1) rfl ?_
    unfold KDo
    rw [HC.out]
    exact ⟨rfl,HE.out.2.1.upto (by omega),HE.out.2.2⟩
   case neg =>
    have kb4:(o.kind==4)=false:=beq_eq_false_iff_ne.2 k4
    have kb5:(o.kind==5)=false:=beq_eq_false_iff_ne.2 k5
    have HK45:=Hdz (Anz k4 k5)
    clear k4 k5
    by_cases k6:o.kind=6
    case pos =>
     have kb:(o.kind==6)=true:=beq_iff_eq.2 k6
     cases hx:lookS l o.ses with
     | none =>
      have HC:Hid (doK (D,n,l) o=((24,[],0),(D,n,l))):=by show doK _ o=_;unfold doK;rw [if_neg HV0.out,if_neg HK45.out.1,if_neg HK45.out.2];simp only [hx]
      have HX:=Hdz hx
      clear k6 hx
      go_enter Tryz.func23,Tryz.ntmps23
      go_wp2_with (fail)
      rw [HW.out]
      go_must (refine (HV.out _).mono ?_)
      rintro e w1 ⟨rfl,hb1⟩
      obtain ⟨bl1,bo1,br1,hlt1⟩:=HIn.out w1 hb1
      have HB1:=Hdz bl1
      have HO1:=Hdz bo1
      have HR1:=Hdz br1
      have HLt1:=Hdz hlt1
      have y0:=bo1.cell 0
      have y1:=bo1.cell 1
      have HP:=Hdz ((HH.out.below bl1).expireNo (by omega) o.ses HX.out)
      clear hb1 bl1 bo1 br1
      go_wp2_with (fail)
      go_must (refine HP.out.mono ?_)
      rintro e w2 ⟨rfl,hb2⟩
      have HB3:=Hdz ((HB1.out.trans (hb2.mono HB1.out.size)).alloc (HB1.out.trans (hb2.mono HB1.out.size)).size (.cells #[.int .i64 0,.int .i64 24] 28))
      have HR3:=Hdz ((Blk.below' HR1.out hb2).alloc (.cells #[.int .i64 0,.int .i64 24] 28))
      clear hb2
      go_wp2_with (fail)
      go_must (refine (told_ok 24 0 24 _ _ _ (Blk.new _ _ _) (.inr rfl)).mono ?_)
      rintro e w4 ⟨rfl,hb4⟩
      have HB4:=Hdz (HB3.out.trans (hb4.mono HB3.out.size))
      have HR4:=Hdz (Blk.below' HR3.out hb4)
      clear hb4
      have HRz:=Hdz (HR4.out)
      obtain ⟨z0,z1,z2,f0,f1,f2⟩:=rep6 HRz.out
      have HE:=Sn.tell HB4.out (HH.out.inn HB4.out) (Keeps.refl _ _) HRz.out HRz.out.lt (24) [] 0
      go_wp2_with (fail)
      refine bodyPost_ret (res_row [.int .i64 24,strV [],.int .i64 0] rfl rfl rfl (by kernel_rfl) HE.out.1) rfl ?_
      unfold KDo
      rw [HC.out]
      exact ⟨rfl,HE.out.2.1.upto (by omega),HE.out.2.2⟩
     | some x =>
      obtain ⟨k,hk,hk1,hk8,hgx⟩:=lookS_some hx
      have hkn:o.ses.toNat=k:=by omega
      have HC:Hid (doK (D,n,l) o=((0,[],0),(D,n,delS k l))):=by show doK _ o=_;unfold doK;rw [if_neg HV0.out,if_neg HK45.out.1,if_neg HK45.out.2];simp only [hx,hkn];exact if_pos k6
      have HKs:=Hdz (Anz hk (Anz hk1 (Anz hk8 hgx)))
      clear k6 hx hk hk1 hk8 hgx hkn
      go_enter Tryz.func23,Tryz.ntmps23
      go_wp2_with (fail)
      rw [HW.out]
      go_must (refine (HV.out _).mono ?_)
      rintro e w1 ⟨rfl,hb1⟩
      obtain ⟨bl1,bo1,br1,hlt1⟩:=HIn.out w1 hb1
      have HB1:=Hdz bl1
      have HO1:=Hdz bo1
      have HR1:=Hdz br1
      have HLt1:=Hdz hlt1
      have y0:=bo1.cell 0
      have y1:w1.cell? ⟨W.heap.size,1,none⟩=some (.int .i64 (k:Int)):=by have h:=bo1.cell 1;rw [<- HKs.out.1];exact h
      have HP:=Hdz ((HH.out.inn bl1).expire (by omega) k HKs.out.2.1 HKs.out.2.2.1 HKs.out.2.2.2)
      clear hb1 bl1 bo1 br1
      go_wp2_with (fail)
      go_must (refine HP.out.mono ?_)
      rintro e w2 ⟨rfl,hS2,hk2⟩
      have hba:Below w2.heap.size w2 (w2.alloc (.cells #[.int .i64 0,.int .i64 24] 28)):=(Below.refl _ _).alloc (Nat.le_refl _) _
      have HS3:=Hdz (Anz (hS2.below hba) (hk2.then hba))
      have HR3:=Hdz (Blk.below' (HR1.out.keeps hk2 λ e=>by have:=HLt1.out;rcases e.2 with e | e<;>omega) hba)
      clear hS2 hk2 hba
      go_wp2_with (fail)
      go_must (refine (told_ok 0 0 24 _ _ _ (Blk.new _ _ _) (.inl rfl)).mono ?_)
      rintro e w4 ⟨rfl,hb4⟩
      have HS4:=Hdz (Anz (HS3.out.1.below hb4) (HS3.out.2.then hb4))
      have HLt:Hid (W.heap.size<=W.heap.size+1/\W.heap.size+1<w1.heap.size):=⟨by omega,HLt1.out⟩
      have HRz:=Hdz (Blk.below' HR3.out hb4)
      obtain ⟨z0,z1,z2,f0,f1,f2⟩:=rep6 HRz.out
      clear hb4
      have HE:=Sn.tell HB1.out HS4.out.1 HS4.out.2 HRz.out HLt.out.2 (0) [] 0
      go_wp2_with (fail)
      refine bodyPost_ret (res_row [.int .i64 0,strV [],.int .i64 0] rfl rfl rfl (by kernel_rfl) HE.out.1) rfl ?_
      unfold KDo
      rw [HC.out]
      exact ⟨rfl,HE.out.2.1.upto (by omega),HE.out.2.2⟩
    case neg =>
     have kb:(o.kind==6)=false:=beq_eq_false_iff_ne.2 k6
     have hkd:o.kind=1\/o.kind=2\/o.kind=3:=by have:=HK45.out.1;have:=HK45.out.2;omega
     have HKd:=Hdz hkd
     have HK6:=Hdz k6
     have hs1:¬ o.seq<1:=by have:=(HRk.out.2.1 (by omega)).2;omega
     have HS1:=Hdz hs1
     clear k6 hkd hs1
     cases hx:lookS l o.ses with
     | none =>
      have HC:Hid (doK (D,n,l) o=((24,[],0),(D,n,l))):=by show doK _ o=_;unfold doK;rw [if_neg HV0.out,if_neg HK45.out.1,if_neg HK45.out.2];simp only [hx]
      have HX:=Hdz hx
      clear hx
      go_enter Tryz.func23,Tryz.ntmps23
      go_wp2_with (fail)
      rw [HW.out]
      go_must (refine (HV.out _).mono ?_)
      rintro e w1 ⟨rfl,hb1⟩
      obtain ⟨bl1,bo1,br1,hlt1⟩:=HIn.out w1 hb1
      have HB1:=Hdz bl1
      have HO1:=Hdz bo1
      have HR1:=Hdz br1
      have HLt1:=Hdz hlt1
      have y0:=bo1.cell 0
      have y1:=bo1.cell 1
      have y2:=bo1.cell 2
      have HP:Hid (Calls Tryz.prog 69 #[ptrV bb,.int .i64 o.ses,.int .i64 o.seq] w1 λ e w'=>e=.returned (.tuple #[repV noSes,.bool false,.int .i64 24])/\Below w1.heap.size w1 w'):=(HH.out.below bl1).lookNo (by omega) o.ses o.seq HX.out
      clear hb1 bl1 bo1 br1
      go_wp2_with (fail)
      go_must (refine HP.out.mono ?_)
      rintro e w2 ⟨rfl,hb2⟩
      have hb2a:=HB1.out.trans ((hb2.alloc hb2.size (.cells #[.int .i64 0,strV [],.int .i64 0] 72)).mono HB1.out.size)
      have hb2b:=Blk.below' HR1.out (hb2.alloc hb2.size (.cells #[.int .i64 0,strV [],.int .i64 0] 72))
      have HB3:=Hdz (hb2a.alloc hb2a.size (.cells #[.int .i64 24,.int .i64 25] 28))
      have HR3:=Hdz (hb2b.alloc (.cells #[.int .i64 24,.int .i64 25] 28))
      clear hb2 hb2a hb2b
      go_wp2_with (fail)
      (go_must (refine (told_ok 24 24 25 _ _ 28 ?hbl (.inl rfl)).mono ?_);(case hbl=>exact Blk.new' (by simp));rintro e w4 ⟨rfl,hb4⟩)
      have HB4:=Hdz (HB3.out.trans (hb4.mono HB3.out.size))
      have HR4:=Hdz (Blk.below' HR3.out hb4)
      clear hb4
      have HRz:=Hdz (HR4.out)
      obtain ⟨z0,z1,z2,f0,f1,f2⟩:=rep6 HRz.out
      have HE:=Sn.tell HB4.out (HH.out.inn HB4.out) (Keeps.refl _ _) HRz.out HRz.out.lt (24) [] 0
      go_wp2_with (fail)
      refine bodyPost_ret (res_row [.int .i64 24,strV [],.int .i64 0] rfl rfl rfl (by kernel_rfl) HE.out.1) rfl ?_
      unfold KDo
      rw [HC.out]
      exact ⟨rfl,HE.out.2.1.upto (by omega),HE.out.2.2⟩
     | some x =>
      have HX:=Hdz hx
      clear hx
      by_cases h1:o.seq<x.seq
      case pos =>
       have HC:Hid (doK (D,n,l) o=((25,[],0),(D,n,l))):=by show doK _ o=_;unfold doK;rw [if_neg HV0.out,if_neg HK45.out.1,if_neg HK45.out.2];simp only [HX.out,HK6.out,h1,if_true,if_false]
       have H1:=Hdz h1
       clear h1
       go_enter Tryz.func23,Tryz.ntmps23
       go_wp2_with (fail)
       rw [HW.out]
       go_must (refine (HV.out _).mono ?_)
       rintro e w1 ⟨rfl,hb1⟩
       obtain ⟨bl1,bo1,br1,hlt1⟩:=HIn.out w1 hb1
       have HB1:=Hdz bl1
       have HO1:=Hdz bo1
       have HR1:=Hdz br1
       have HLt1:=Hdz hlt1
       have y0:=bo1.cell 0
       have y1:=bo1.cell 1
       have y2:=bo1.cell 2
       have HP:Hid (Calls Tryz.prog 69 #[ptrV bb,.int .i64 o.ses,.int .i64 o.seq] w1 λ e w'=>e=.returned (.tuple #[repV noSes,.bool false,.int .i64 25])/\Below w1.heap.size w1 w'):=(HH.out.below bl1).lookStale1 (by omega) o.ses o.seq HX.out H1.out
       clear hb1 bl1 bo1 br1
       go_wp2_with (fail)
       go_must (refine HP.out.mono ?_)
       rintro e w2 ⟨rfl,hb2⟩
       have hb2a:=HB1.out.trans ((hb2.alloc hb2.size (.cells #[.int .i64 0,strV [],.int .i64 0] 72)).mono HB1.out.size)
       have hb2b:=Blk.below' HR1.out (hb2.alloc hb2.size (.cells #[.int .i64 0,strV [],.int .i64 0] 72))
       have HB3:=Hdz (hb2a.alloc hb2a.size (.cells #[.int .i64 24,.int .i64 25] 28))
       have HR3:=Hdz (hb2b.alloc (.cells #[.int .i64 24,.int .i64 25] 28))
       clear hb2 hb2a hb2b
       go_wp2_with (fail)
       (go_must (refine (told_ok 25 24 25 _ _ 28 ?hbl (.inr rfl)).mono ?_);(case hbl=>exact Blk.new' (by simp));rintro e w4 ⟨rfl,hb4⟩)
       have HB4:=Hdz (HB3.out.trans (hb4.mono HB3.out.size))
       have HR4:=Hdz (Blk.below' HR3.out hb4)
       clear hb4
       have HRz:=Hdz (HR4.out)
       obtain ⟨z0,z1,z2,f0,f1,f2⟩:=rep6 HRz.out
       have HE:=Sn.tell HB4.out (HH.out.inn HB4.out) (Keeps.refl _ _) HRz.out HRz.out.lt (25) [] 0
       go_wp2_with (fail)
       refine bodyPost_ret (res_row [.int .i64 25,strV [],.int .i64 0] rfl rfl rfl (by kernel_rfl) HE.out.1) rfl ?_
       unfold KDo
       rw [HC.out]
       exact ⟨rfl,HE.out.2.1.upto (by omega),HE.out.2.2⟩
      case neg =>
       by_cases h2:o.seq=x.seq
       case pos =>
        have HC:Hid (doK (D,n,l) o=((x.err,x.val,x.num),(D,n,l))):=by show doK _ o=_;unfold doK;rw [if_neg HV0.out,if_neg HK45.out.1,if_neg HK45.out.2];simp only [HX.out,HK6.out,h1,if_false];exact if_pos h2
        have H1:=Hdz h2
        clear h1 h2
        go_enter Tryz.func23,Tryz.ntmps23
        go_wp2_with (fail)
        rw [HW.out]
        go_must (refine (HV.out _).mono ?_)
        rintro e w1 ⟨rfl,hb1⟩
        obtain ⟨bl1,bo1,br1,hlt1⟩:=HIn.out w1 hb1
        have HB1:=Hdz bl1
        have HO1:=Hdz bo1
        have HR1:=Hdz br1
        have HLt1:=Hdz hlt1
        have y0:=bo1.cell 0
        have y1:=bo1.cell 1
        have y2:=bo1.cell 2
        have HP:Hid (Calls Tryz.prog 69 #[ptrV bb,.int .i64 o.ses,.int .i64 o.seq] w1 λ e w'=>e=.returned (.tuple #[repV x,.bool true,.int .i64 0])/\Below w1.heap.size w1 w'):=(HH.out.below bl1).lookOld (by omega) o.ses o.seq HX.out H1.out (by have:=HS1.out;omega)
        clear hb1 bl1 bo1 br1
        go_wp2_with (fail)
        go_must (refine HP.out.mono ?_)
        rintro e w2 ⟨rfl,hb2⟩
        have HB3:=Hdz (HB1.out.trans (hb2.mono HB1.out.size))
        have HR3:=Hdz (Blk.below' HR1.out hb2)
        have hlt2:W.heap.size+1<w2.heap.size:=HR3.out.lt
        clear hb2
        have HRz:=Hdz (HR3.out)
        obtain ⟨z0,z1,z2,f0,f1,f2⟩:=rep6 HRz.out
        have HE:=Sn.tell HB3.out (HH.out.inn HB3.out) (Keeps.refl _ _) HRz.out HRz.out.lt (x.err) x.val x.num
        go_wp2_with (fail)
        refine bodyPost_ret (res_row [.int .i64 x.err,strV x.val,.int .i64 x.num] rfl rfl rfl (by kernel_rfl) (HE.out.1.alloc _)) rfl ?_
        unfold KDo
        rw [HC.out]
        exact ⟨rfl,(HE.out.2.1.upto (by omega)).below ((Below.refl _ _).alloc (Nat.le_refl _) _),HE.out.2.2.then ((Below.refl _ _).alloc (Nat.le_refl _) _)⟩
       case neg =>
        have h3:x.seq<o.seq:=by omega
        obtain ⟨k,hk,hk1,hk8,hgx⟩:=lookS_some HX.out
        have hkn:o.ses.toNat=k:=by omega
        obtain ⟨c1,c2,c3,hce⟩:∃ c1 c2 c3,chgK D o=(c1,c2,c3):=⟨_,_,_,rfl⟩
        have hcs:=chgK_small (o:=o) HDd.out
        rw [hce] at hcs
        have HC:Hid (doK (D,n,l) o=((c1,c2,0),(c3,n,setS k ⟨x.who,o.seq,c1,0,c2⟩ l))):=by show doK _ o=_;unfold doK;rw [if_neg HV0.out,if_neg HK45.out.1,if_neg HK45.out.2];simp only [HX.out,HK6.out,h1,h2,if_false,hkn,hce]
        have HK3:=Hdz (Anz h3 (Anz hk (Anz hk1 (Anz hk8 (Anz hgx (Anz hce hcs))))))
        clear h1 h2 h3 hk hk1 hk8 hgx hkn hce hcs
        go_enter Tryz.func23,Tryz.ntmps23
        go_wp2_with (fail)
        rw [HW.out]
        go_must (refine (HV.out _).mono ?_)
        rintro e w1 ⟨rfl,hb1⟩
        obtain ⟨bl1,bo1,br1,hlt1⟩:=HIn.out w1 hb1
        have HB1:=Hdz bl1
        have HO1:=Hdz bo1
        have HR1:=Hdz br1
        have HLt1:=Hdz hlt1
        have y0:=bo1.cell 0
        have y1:=bo1.cell 1
        have y2:=bo1.cell 2
        have HP:Hid (Calls Tryz.prog 69 #[ptrV bb,.int .i64 o.ses,.int .i64 o.seq] w1 λ e w'=>e=.returned (.tuple #[repV noSes,.bool false,.int .i64 0])/\Below w1.heap.size w1 w'):=(HH.out.below bl1).lookNew (by omega) o.ses o.seq HX.out HK3.out.1 (by have:=HS1.out;omega)
        clear hb1 bl1 bo1 br1
        go_wp2_with (fail)
        go_must (refine HP.out.mono ?_)
        rintro e w2 ⟨rfl,hb2⟩
        obtain ⟨w3,hw3⟩:=nmz (w2.alloc (.cells #[.int .i64 0,strV [],.int .i64 0] 72))
        obtain ⟨g9,hg9⟩:=nmz (w2.heap.size)
        have hba:Below w2.heap.size w2 w3:=by rw [<- hw3];exact (Below.refl _ _).alloc (Nat.le_refl _) _
        have hz3:w3.heap.size=g9+1:=by rw [<- hw3,<- hg9];simp
        have b9:Blk w3 g9 72 #[.int .i64 0,strV [],.int .i64 0]:=by rw [<- hw3,<- hg9];exact Blk.new _ _ _
        have hb3:=hb2.trans (hba.mono hb2.size)
        have hB3:=HB1.out.trans (hb3.mono HB1.out.size)
        have bo2:=Blk.below' HO1.out hb2
        have y0:=bo2.cell 0
        have y1:=bo2.cell 1
        have y2:=bo2.cell 2
        have y3:=bo2.cell 3
        have y4:=bo2.cell 4
        have y5:=bo2.cell 5
        have hlg:W.heap.size+1<g9:=by have:=HLt1.out;have:=hb2.size;omega
        have hlw:W.heap.size<w2.heap.size:=by omega
        have hlo:W.heap.size<g9:=by omega
        have HChg:=Hdz ((HH.out.inn hB3).change (by omega) o HKd.out (HRk.out.1 (by have:=HKd.out;omega)).1 (HRk.out.1 (by have:=HKd.out;omega)).2 HRk.out.2.2.1 HRoom.out)
        have H3:=Hdz (Anz hB3 (Anz hz3 (Anz b9 (Anz (Blk.below' HO1.out hb3) (Blk.below' HR1.out hb3)))))
        have HW3:=Hdz (Anz hw3 hg9)
        clear hb2 hba hb3 hB3 bo2 b9 hz3 hw3 hg9
        go_wp2_with (fail)
        rw [HW3.out.1,HW3.out.2]
        go_must (refine HChg.out.mono ?_)
        intro e w4 hch
        unfold KChg at hch
        rw [HK3.out.2.2.2.2.2.1] at hch
        obtain ⟨rfl,hS4,hk4⟩:=hch
        have hnF:∀ j,W.heap.size<=j->j<=g9->¬ Fin F W.heap.size w3.heap.size j:=λ j h1 h2 e=>by have:=H3.out.2.1;rcases e.2 with e | e<;>omega
        have b9:=H3.out.2.2.1.keeps hk4 (hnF _ (by omega) (by omega))
        have bo4:=H3.out.2.2.2.1.keeps hk4 (hnF _ (by omega) (by omega))
        have br4:=H3.out.2.2.2.2.keeps hk4 (hnF _ (by omega) (by omega))
        obtain ⟨v0,v1,v2,vf0,vf1,vf2⟩:=rep6 b9
        have y1:=bo4.cell 1
        have y2:=bo4.cell 2
        obtain ⟨w5,hw5⟩:=nmz (((w4.setCell ⟨g9,0,none⟩ (.int .i64 c1)).setCell ⟨g9,1,none⟩ (strV c2)).setCell ⟨g9,2,none⟩ (.int .i64 0))
        have K45:Keeps (λ j=>j=g9) w4 w5:=by rw [<- hw5];exact ((((Keeps.refl (λ j=>j=g9) w4).setCell (p:=⟨g9,0,none⟩) (λ _=>rfl) (.int .i64 c1)).setCell (p:=⟨g9,1,none⟩) (λ _=>rfl) (strV c2)).setCell (p:=⟨g9,2,none⟩) (λ _=>rfl) (.int .i64 0))
        have b95:Blk w5 g9 72 #[.int .i64 c1,strV c2,.int .i64 0]:=by rw [<- hw5];exact ((b9.set 0 (.int .i64 c1)).set 1 (strV c2)).set 2 (.int .i64 0)
        have br5:=br4.keeps K45 (by omega)
        have hS5:=hS4.fence (F':=Fin F W.heap.size w3.heap.size) K45 (λ j _ e hh=>hnF j (by omega) (by omega) e) (λ _ _ e=>e) λ j hj=>hS4.size j (Nat.le_trans K45.size hj)
        have hyg:SesGood ⟨0,0,c1,0,c2⟩:=⟨by simp [I64],by simp [I64],HK3.out.2.2.2.2.2.2.1,by simp [I64],by have:=HK3.out.2.2.2.2.2.2.2;show c2.length<=2000;omega⟩
        have hsv:=hS5.saveNew (x:=x) (by omega) k HK3.out.2.2.1 HK3.out.2.2.2.1 o.seq ⟨0,0,c1,0,c2⟩ HK3.out.2.2.2.2.1 HK3.out.1 (by have:=HS1.out;omega) HGd.out.2.1 hyg HK3.out.2.2.2.2.2.2.2
        rw [<- HK3.out.2.1] at hsv
        have HSv:=Hdz hsv
        have H5:=Hdz (Anz hk4 (Anz K45 (Anz b95 (Anz br5 hnF))))
        have HW5:=Hdz hw5
        clear hS4 hk4 hnF b9 bo4 br4 hw5 K45 b95 br5 hS5 hyg hsv
        go_wp2_with (fail)
        rw [HW5.out]
        go_must (refine HSv.out.mono ?_)
        rintro e w6 ⟨rfl,hS6,hk6⟩
        have b96:=H5.out.2.2.1.keeps hk6 (H5.out.2.2.2.2 _ (by omega) (by omega))
        have u0:=b96.cell 0
        have u1:=b96.cell 1
        have u2:=b96.cell 2
        have br6:=H5.out.2.2.2.1.keeps hk6 (H5.out.2.2.2.2 _ (by omega) (by omega))
        obtain ⟨z0,z1,z2,f0,f1,f2⟩:=rep6 br6
        have hfin:=((br6.set 0 (.int .i64 c1)).set 1 (strV c2)).set 2 (.int .i64 0)
        have K67:=((((Keeps.refl (λ j=>j=W.heap.size+1) w6).setCell (p:=⟨W.heap.size+1,0,none⟩) (λ _=>rfl) (.int .i64 c1)).setCell (p:=⟨W.heap.size+1,1,none⟩) (λ _=>rfl) (strV c2)).setCell (p:=⟨W.heap.size+1,2,none⟩) (λ _=>rfl) (.int .i64 0))
        have hS7:=hS6.fence (F':=F) K67 (λ j _ e hh=>H5.out.2.2.2.2 j (by omega) (by omega) e) (λ _ _ e=>e.1) λ j hj=>(hS6.size j (Nat.le_trans K67.size hj)).1
        have hK7:=((((Keeps.of_below (S:=λ j=>F j\/W.heap.size<=j) H3.out.1).trans H5.out.1 (λ _ _ e=>.inl e.1)).trans H5.out.2.1 (λ j _ e=>.inr (by omega))).trans hk6 (λ _ _ e=>.inl e.1)).trans K67 (λ j _ e=>.inr (by omega))
        have HE:=Hdz (Anz hfin (Anz hS7 (hK7.mono (S':=F) λ j hj e=>e.resolve_right (by omega))))
        clear hS6 hk6 b96 br6 hfin K67 hS7 hK7
        go_wp2_with (fail)
        refine bodyPost_ret (res_row [.int .i64 c1,strV c2,.int .i64 0] rfl rfl rfl (by kernel_rfl) HE.out.1) rfl ?_
        unfold KDo
        rw [HC.out]
        exact ⟨rfl,HE.out.2.1.upto (by omega),HE.out.2.2⟩
end
end Go.Ev
