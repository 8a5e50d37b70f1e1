/-
  Texts of this claim.
-/
import Derived.Test.YtmfoiaaehkandaaGreatDoorMOGwKv2
set_option linter.unusedVariables false
set_option linter.unusedSimpArgs false
set_option maxHeartbeats 8000000
set_option maxRecDepth 100000
namespace Go.Ev
open Go.Proofs Go.RowKit
def KChg (D:DB) (F:Nat->Prop) (bb q n:Nat) (l:List (Nat × Ses)) (o:KOp) (W:World) (e:Ending) (w':World):Prop:=
 e=.returned (.tuple #[rp (chgK D o).1 (chgK D o).2.1 0,.int .i64 0])/\Sn (chgK D o).2.2 F bb (q+1) n l w'/\Keeps F W w'
section
variable {D:DB} {F:Nat->Prop} {bb q n:Nat} {l:List (Nat × Ses)} {W W':World}
theorem Sn.change (h:Sn D F bb q n l W) (hq:q<=18000) (o:KOp) (hkd:o.kind=1\/o.kind=2\/o.kind=3) (hk1:1<=o.key.length) (hk2:o.key.length<=38) (hv:o.val.length<=900) (hroom:ndN (D.1+1) (insP o.key o.val D.2)<=300000) :
  Calls Tryz.prog 70 #[ptrV bb,kopV o] W (KChg D F bb q n l o W):=by
 obtain ⟨W2,hW2⟩:=nmz ((W.alloc (.cells (kopA o) 76)).alloc (.cells #[.int .i64 0,strV [],.int .i64 0] 72))
 have hb2:Below W.heap.size W W2:=by rw [<- hW2];exact ((Below.refl _ _).alloc (Nat.le_refl _) _).alloc (by simp) _
 have hz2:W2.heap.size=W.heap.size+2:=by rw [<- hW2];simp
 have bo:Blk W2 W.heap.size 76 (kopA o):=by rw [<- hW2];exact (Blk.new _ _ _).alloc _
 have br:Blk W2 (W.heap.size+1) 72 #[.int .i64 0,strV [],.int .i64 0]:=by rw [<- hW2];exact Blk.new' (by simp)
 have HW:=Hdz hW2
 have HB2:=Hdz hb2
 have HZ2:=Hdz hz2
 have HO:=Hdz bo
 have HR:=Hdz br
 have HH:=Hdz h
 have HRoom:=Hdz (Anz hk1 (Anz hk2 (Anz hv hroom)))
 have x0:=bo.cell 0
 have x1:=bo.cell 1
 have x2:=bo.cell 2
 have x3:=bo.cell 3
 have x4:=bo.cell 4
 have x5:=bo.cell 5
 clear hW2 hb2 hz2 bo br h hk1 hk2 hv hroom
 have HGood:Hid (goodKV o.key o.val=true):=goodKV_small HRoom.out.1 (by have:=HRoom.out.2.1;omega) (by have:=HRoom.out.2.2.1;omega)
 by_cases hk:o.kind=1
 ·have kb:(o.kind==1)=true:=beq_iff_eq.2 hk
  have HC:Hid (chgK D o=(0,[],(D.1+1,insP o.key o.val D.2))):=if_pos hk
  have HLt:Hid (W.heap.size<=W.heap.size+1/\W.heap.size+1<W2.heap.size):=⟨by omega,by have:=HZ2.out;omega⟩
  have HP:=Hdz ((HH.out.inn HB2.out).putD (by omega) o.key o.val HGood.out HRoom.out.2.2.2)
  clear hk hkd
  go_enter Tryz.func70,Tryz.ntmps70
  go_wp2_with (fail)
  rw [HW.out]
  go_must (refine HP.out.mono ?_)
  rintro e w3 ⟨rfl,hS3,hk3⟩
  have HS3:=Hdz (Anz hS3 hk3)
  have HRz:=Hdz (HR.out.keeps hk3 λ e=>by have:=HLt.out;rcases e.2 with e | e<;>omega)
  have z0:=HRz.out.cell 0
  have z1:=HRz.out.cell 1
  have z2:=HRz.out.cell 2
  have f0:=HRz.out.frozen 0
  have f1:=HRz.out.frozen 1
  have f2:=HRz.out.frozen 2
  clear hS3 hk3
  have hfin:=((HRz.out.set 0 (.int .i64 0)).set 1 (strV [])).set 2 (.int .i64 0)
  have KO:=((((Keeps.refl (λ k=>W.heap.size<=k/\k<W2.heap.size) w3).setCell (p:=⟨W.heap.size+1,0,none⟩) (λ _=>HLt.out) (.int .i64 0)).setCell (p:=⟨W.heap.size+1,1,none⟩) (λ _=>HLt.out) (strV [])).setCell (p:=⟨W.heap.size+1,2,none⟩) (λ _=>HLt.out) (.int .i64 0))
  have hend:=Sn.done (W:=W) HB2.out rfl HS3.out.1 HS3.out.2 KO
  have HE:=Hdz (Anz hfin hend)
  clear hfin KO hend
  go_wp2_with (fail)
  refine bodyPost_ret (res_row [.int .i64 0,strV [],.int .i64 0] rfl rfl rfl (by kernel_rfl) HE.out.1) rfl ?_
  unfold KChg
  rw [HC.out]
  exact ⟨rfl,HE.out.2⟩
 ·have kb:(o.kind==1)=false:=beq_eq_false_iff_ne.2 hk
  have hkd2:o.kind=2\/o.kind=3:=by rcases hkd with e | e | e<;>omega
  have HG:=Hdz ((HH.out.below HB2.out).kvGet (by omega) o.key HRoom.out.1 (by have:=HRoom.out.2.1;omega))
  have HN1:=Hdz hk
  clear hk hkd
  cases hp:getP o.key D.2 with
  | none =>
   have HC:Hid (chgK D o=(7,[],D)):=by show chgK D o=_;unfold chgK;rw [if_neg HN1.out,hp]
   have hgr:getR D.2 o.key=(7,[]):=by unfold getR;rw [hp]
   rw [hgr] at HG
   clear hgr hp hkd2
   go_enter Tryz.func70,Tryz.ntmps70
   go_wp2_with (fail)
   rw [HW.out]
   go_must (refine HG.out.mono ?_)
   rintro e w3 ⟨rfl,hb3⟩
   have HB3:=Hdz (HB2.out.trans (hb3.mono HB2.out.size))
   have HLt:Hid (W.heap.size<=W.heap.size+1/\W.heap.size+1<w3.heap.size):=⟨by omega,by have:=HZ2.out;have:=hb3.size;omega⟩
   have HRz:=Hdz (Blk.below' HR.out hb3)
   have z0:=HRz.out.cell 0
   have z1:=HRz.out.cell 1
   have z2:=HRz.out.cell 2
   have f0:=HRz.out.frozen 0
   have f1:=HRz.out.frozen 1
   have f2:=HRz.out.frozen 2
   have HS4:=Hdz (HH.out.inn HB3.out)
   have hlt1:W.heap.size<w3.heap.size:=by have:=HLt.out;omega
   have hlt2:W.heap.size+1<w3.heap.size:=HLt.out.2
   clear hb3
   have hfin:=((HRz.out.set 0 (.int .i64 7)).set 1 (strV [])).set 2 (.int .i64 0)
   have KO:=((((Keeps.refl (λ k=>W.heap.size<=k/\k<w3.heap.size) w3).setCell (p:=⟨W.heap.size+1,0,none⟩) (λ _=>HLt.out) (.int .i64 7)).setCell (p:=⟨W.heap.size+1,1,none⟩) (λ _=>HLt.out) (strV [])).setCell (p:=⟨W.heap.size+1,2,none⟩) (λ _=>HLt.out) (.int .i64 0))
   have hend:=Sn.done (W:=W) HB3.out rfl HS4.out (Keeps.refl _ _) KO
   have HE:=Hdz (Anz hfin hend)
   clear hfin KO hend
   go_wp2_with (fail)
   refine bodyPost_ret (res_row [.int .i64 7,strV [],.int .i64 0] rfl rfl rfl (by kernel_rfl) (HE.out.1.alloc _)) rfl ?_
   unfold KChg
   rw [HC.out]
   exact ⟨rfl,(HE.out.2.1.upto (by omega)).below ((Below.refl _ _).alloc (Nat.le_refl _) _),HE.out.2.2.then ((Below.refl _ _).alloc (Nat.le_refl _) _)⟩
  | some v =>
   have hgr:getR D.2 o.key=(0,v):=by unfold getR;rw [hp]
   rw [hgr] at HG
   have hin:(getP o.key D.2).isSome=true:=by rw [hp];rfl
   have HIn:=Hdz hin
   have HPv:=Hdz hp
   clear hgr hp hin
   rcases hkd2 with hk | hk
   ·have kb2:(o.kind==2)=true:=beq_iff_eq.2 hk
    have HC:Hid (chgK D o=(0,[],(D.1,delP o.key D.2))):=by show chgK D o=_;unfold chgK;rw [if_neg HN1.out,HPv.out];exact if_pos hk
    clear hk
    go_enter Tryz.func70,Tryz.ntmps70
    go_wp2_with (fail)
    rw [HW.out]
    go_must (refine HG.out.mono ?_)
    rintro e w3 ⟨rfl,hb3⟩
    obtain ⟨w4,hw4⟩:=nmz (w3.alloc (.cells #[.int .i64 0,strV v,.int .i64 0] 72))
    have hba:Below w3.heap.size w3 w4:=by rw [<- hw4];exact (Below.refl _ _).alloc (Nat.le_refl _) _
    have hb4:Below W2.heap.size W2 w4:=hb3.trans (hba.mono hb3.size)
    have HB4:=Hdz (HB2.out.trans (hb4.mono HB2.out.size))
    have HLt:Hid (W.heap.size<=W.heap.size+1/\W.heap.size+1<w4.heap.size):=⟨by omega,by have:=HZ2.out;have:=hb4.size;omega⟩
    have HO4:=Hdz (Blk.below' HO.out hb4)
    have HR4:=Hdz (Blk.below' HR.out hb4)
    have HW4:=Hdz hw4
    have HD:=Hdz ((HH.out.inn HB4.out).delD (by omega) o.key HRoom.out.1 (by have:=HRoom.out.2.1;omega) HIn.out (Nat.le_trans (ndN_del _ _ _) HH.out.room))
    have bo3:=Blk.below' HO.out hb3
    have y0:=bo3.cell 0
    have y3:=bo3.cell 3
    have hlt1:W.heap.size<w3.heap.size:=by have:=HZ2.out;have:=hb3.size;omega
    clear bo3
    clear hb3 hba hb4 hw4
    go_wp2_with (fail)
    rw [HW4.out]
    go_must (refine HD.out.mono ?_)
    rintro e w5 ⟨rfl,hS5,hk5⟩
    have HS5:=Hdz (Anz hS5 hk5)
    have HRz:=Hdz (HR4.out.keeps hk5 λ e=>by have:=HLt.out;rcases e.2 with e | e<;>omega)
    have z0:=HRz.out.cell 0
    have z1:=HRz.out.cell 1
    have z2:=HRz.out.cell 2
    have f0:=HRz.out.frozen 0
    have f1:=HRz.out.frozen 1
    have f2:=HRz.out.frozen 2
    clear hS5 hk5
    have hfin:=((HRz.out.set 0 (.int .i64 0)).set 1 (strV [])).set 2 (.int .i64 0)
    have KO:=((((Keeps.refl (λ k=>W.heap.size<=k/\k<w4.heap.size) w5).setCell (p:=⟨W.heap.size+1,0,none⟩) (λ _=>HLt.out) (.int .i64 0)).setCell (p:=⟨W.heap.size+1,1,none⟩) (λ _=>HLt.out) (strV [])).setCell (p:=⟨W.heap.size+1,2,none⟩) (λ _=>HLt.out) (.int .i64 0))
    have hend:=Sn.done (W:=W) HB4.out rfl HS5.out.1 HS5.out.2 KO
    have HE:=Hdz (Anz hfin hend)
    clear hfin KO hend
    go_wp2_with (fail)
    refine bodyPost_ret (res_row [.int .i64 0,strV [],.int .i64 0] rfl rfl rfl (by kernel_rfl) HE.out.1) rfl ?_
    unfold KChg
    rw [HC.out]
    exact ⟨rfl,HE.out.2⟩
   ·have kb2:(o.kind==2)=false:=by simp [hk]
    by_cases ho:v=o.old
    ·have kb3:(v==o.old)=true:=beq_iff_eq.2 ho
     have kb4:(v != o.old)=false:=by simp [ho]
     have HC:Hid (chgK D o=(0,[],(D.1+1,insP o.key o.val D.2))):=by
      show chgK D o=_
      unfold chgK
      rw [if_neg HN1.out,HPv.out]
      have e1:¬ o.kind=2:=by omega
      have e2:¬ v≠o.old:=λ e=>e ho
      simp only [e1,e2,if_false]
     have HOv:=Hdz ho
     clear hk ho
     go_enter Tryz.func70,Tryz.ntmps70
     go_wp2_with (fail)
     rw [HW.out]
     go_must (refine HG.out.mono ?_)
     rintro e w3 ⟨rfl,hb3⟩
     obtain ⟨w4,hw4⟩:=nmz (w3.alloc (.cells #[.int .i64 0,strV v,.int .i64 0] 72))
     have hba:Below w3.heap.size w3 w4:=by rw [<- hw4];exact (Below.refl _ _).alloc (Nat.le_refl _) _
     have hb4:Below W2.heap.size W2 w4:=hb3.trans (hba.mono hb3.size)
     have HB4:=Hdz (HB2.out.trans (hb4.mono HB2.out.size))
     have HLt:Hid (W.heap.size<=W.heap.size+1/\W.heap.size+1<w4.heap.size):=⟨by omega,by have:=HZ2.out;have:=hb4.size;omega⟩
     have HO4:=Hdz (Blk.below' HO.out hb4)
     have HR4:=Hdz (Blk.below' HR.out hb4)
     have HW4:=Hdz hw4
     have HD:=Hdz ((HH.out.inn HB4.out).putD (by omega) o.key o.val HGood.out HRoom.out.2.2.2)
     have bo3:=Blk.below' HO.out hb3
     have y0:=bo3.cell 0
     have y3:=bo3.cell 3
     have y4:=bo3.cell 4
     have y5:=bo3.cell 5
     have hlt1:W.heap.size<w3.heap.size:=by have:=HZ2.out;have:=hb3.size;omega
     clear bo3
     clear hb3 hba hb4 hw4
     go_wp2_with (fail)
     rw [HW4.out]
     go_must (refine HD.out.mono ?_)
     rintro e w5 ⟨rfl,hS5,hk5⟩
     have HS5:=Hdz (Anz hS5 hk5)
     have HRz:=Hdz (HR4.out.keeps hk5 λ e=>by have:=HLt.out;rcases e.2 with e | e<;>omega)
     have z0:=HRz.out.cell 0
     have z1:=HRz.out.cell 1
     have z2:=HRz.out.cell 2
     have f0:=HRz.out.frozen 0
     have f1:=HRz.out.frozen 1
     have f2:=HRz.out.frozen 2
     clear hS5 hk5
     have hfin:=((HRz.out.set 0 (.int .i64 0)).set 1 (strV [])).set 2 (.int .i64 0)
     have KO:=((((Keeps.refl (λ k=>W.heap.size<=k/\k<w4.heap.size) w5).setCell (p:=⟨W.heap.size+1,0,none⟩) (λ _=>HLt.out) (.int .i64 0)).setCell (p:=⟨W.heap.size+1,1,none⟩) (λ _=>HLt.out) (strV [])).setCell (p:=⟨W.heap.size+1,2,none⟩) (λ _=>HLt.out) (.int .i64 0))
     have hend:=Sn.done (W:=W) HB4.out rfl HS5.out.1 HS5.out.2 KO
     have HE:=Hdz (Anz hfin hend)
     clear hfin KO hend
     go_wp2_with (fail)
     refine bodyPost_ret (res_row [.int .i64 0,strV [],.int .i64 0] rfl rfl rfl (by kernel_rfl) HE.out.1) rfl ?_
     unfold KChg
     rw [HC.out]
     exact ⟨rfl,HE.out.2⟩
    ·have kb3:(v==o.old)=false:=beq_eq_false_iff_ne.2 ho
     have kb4:(v != o.old)=true:=by simp [ho]
     have HC:Hid (chgK D o=(26,v,D)):=by
      show chgK D o=_
      unfold chgK
      rw [if_neg HN1.out,HPv.out]
      have e1:¬ o.kind=2:=by omega
      simp only [e1,if_false,ne_eq,ho,not_false_eq_true,if_true]
     clear hk ho
     go_enter Tryz.func70,Tryz.ntmps70
     go_wp2_with (fail)
     rw [HW.out]
     go_must (refine HG.out.mono ?_)
     rintro e w3 ⟨rfl,hb3⟩
     have HB3:=Hdz (HB2.out.trans (hb3.mono HB2.out.size))
     have HLt:Hid (W.heap.size<=W.heap.size+1/\W.heap.size+1<w3.heap.size):=⟨by omega,by have:=HZ2.out;have:=hb3.size;omega⟩
     have bo3:=Blk.below' HO.out hb3
     have y0:=bo3.cell 0
     have y5:=bo3.cell 5
     clear bo3
     have HRz:=Hdz (Blk.below' HR.out hb3)
     have z0:=HRz.out.cell 0
     have z1:=HRz.out.cell 1
     have z2:=HRz.out.cell 2
     have f0:=HRz.out.frozen 0
     have f1:=HRz.out.frozen 1
     have f2:=HRz.out.frozen 2
     have HS4:=Hdz (HH.out.inn HB3.out)
     have hlt1:W.heap.size<w3.heap.size:=by have:=HLt.out;omega
     have hlt2:W.heap.size+1<w3.heap.size:=HLt.out.2
     clear hb3
     have hfin:=((HRz.out.set 0 (.int .i64 26)).set 1 (strV v)).set 2 (.int .i64 0)
     have KO:=((((Keeps.refl (λ k=>W.heap.size<=k/\k<w3.heap.size) w3).setCell (p:=⟨W.heap.size+1,0,none⟩) (λ _=>HLt.out) (.int .i64 26)).setCell (p:=⟨W.heap.size+1,1,none⟩) (λ _=>HLt.out) (strV v)).setCell (p:=⟨W.heap.size+1,2,none⟩) (λ _=>HLt.out) (.int .i64 0))
     have hend:=Sn.done (W:=W) HB3.out rfl HS4.out (Keeps.refl _ _) KO
     have HE:=Hdz (Anz hfin hend)
     clear hfin KO hend
     go_wp2_with (fail)
     refine bodyPost_ret (res_row [.int .i64 26,strV v,.int .i64 0] rfl rfl rfl (by kernel_rfl) (HE.out.1.alloc _)) rfl ?_
     unfold KChg
     rw [HC.out]
     exact ⟨rfl,(HE.out.2.1.upto (by omega)).below ((Below.refl _ _).alloc (Nat.le_refl _) _),HE.out.2.2.then ((Below.refl _ _).alloc (Nat.le_refl _) _)⟩
end
abbrev KSt:=DB × Nat × List (Nat × Ses)
def doK (s:KSt) (o:KOp):(Int × Bytes × Int) × KSt:=
 if validK o≠0 then ((validK o,[],0),s)
 else if o.kind=4 then (((getR s.1.2 o.key).1,(getR s.1.2 o.key).2,0),s)
 else if o.kind=5 then ((0,[],((s.2.1+1:Nat):Int)),(s.1,s.2.1+1,regS s.2.1 o.seq s.2.2))
 else match lookS s.2.2 o.ses with
  | none=>((24,[],0),s)
  | some x =>
   if o.kind=6 then ((0,[],0),(s.1,s.2.1,delS o.ses.toNat s.2.2))
   else if o.seq<x.seq then ((25,[],0),s)
   else if o.seq=x.seq then ((x.err,x.val,x.num),s)
   else (((chgK s.1 o).1,(chgK s.1 o).2.1,0),((chgK s.1 o).2.2,s.2.1,setS o.ses.toNat ⟨x.who,o.seq,(chgK s.1 o).1,0,(chgK s.1 o).2.1⟩ s.2.2))
def GoodK (o:KOp):Prop:=I64 o.ses/\I64 o.seq/\o.key.length<=9223372036854775807/\o.val.length<=9223372036854775807/\o.old.length<=9223372036854775807
theorem rightK_key {o:KOp} (h:rightK o=true):1<=o.kind/\o.kind<=6/\(o.kind<=4->1<=o.key.length/\o.key.length<=38)/\(o.kind<=3->1<=o.ses/\1<=o.seq):=by
 unfold rightK keyK at h
 simp only [Bool.and_eq_true,Bool.not_eq_true',Bool.or_eq_true,decide_eq_true_eq,Bool.and_eq_false_iff,decide_eq_false_iff_not,Bool.or_eq_false_iff] at h
 obtain ⟨⟨⟨⟨h1,h2⟩,_⟩,h4⟩,h5⟩:=h
 refine ⟨h1,h2,λ h=>?_,λ h=>?_⟩
 ·rcases h5 with h5 | h5<;>omega
 ·rcases h4 with h4 | h4<;>omega
theorem validK_zero {o:KOp} (h:validK o=0):rightK o=true/\o.val.length<=900/\o.old.length<=900:=by
 unfold validK at h
 split at h
 ·cases h
 ·rename_i hr
  split at h
  ·cases h
  ·exact ⟨by simpa using hr,by omega,by omega⟩
theorem told_ok (e a b:Int) (g:Nat) (w:World) (T:TypeId) (hb:Blk w g T #[.int .i64 a,.int .i64 b]) (he:e=a\/e=b) :
  Calls Tryz.prog 67 #[.int .i64 e,.slice (some ⟨g,0,none⟩) 2 2] w λ r w'=>r=.returned (.tuple #[rp e [] 0,.int .i64 0])/\Below w.heap.size w w':=by
 have hb1:Blk (w.alloc (.cells #[.int .i64 0,strV [],.int .i64 0] 72)) g T #[.int .i64 a,.int .i64 b]:=hb.alloc _
 have HW:Hid (Below w.heap.size w (w.alloc (.cells #[.int .i64 0,strV [],.int .i64 0] 72))):=(Below.refl _ _).alloc (Nat.le_refl _) _
 have HZ:Hid (Blk (w.alloc (.cells #[.int .i64 0,strV [],.int .i64 0] 72)) w.heap.size 72 #[.int .i64 0,strV [],.int .i64 0]):=Blk.new _ _ _
 have hgl:g<w.heap.size:=hb.lt
 have x0:=hb.cell 0
 have x1:=hb.cell 1
 have HE1:Hid (Blk (w.alloc (.cells #[.int .i64 e,strV [],.int .i64 0] 72)) w.heap.size 72 #[.int .i64 e,strV [],.int .i64 0]/\Below w.heap.size w (w.alloc (.cells #[.int .i64 e,strV [],.int .i64 0] 72))):=⟨Blk.new _ _ _,(Below.refl _ _).alloc (Nat.le_refl _) _⟩
 clear hb hb1
 go_enter Tryz.func67,Tryz.ntmps67
 go_wp2_with (fail)
 go_loopg [10] 2 (λ gk s10 wr=>∃ i:Nat,s10=.int .i64 (i:Int)/\i+gk=2/\(i=0\/(i=1/\e≠a))/\wr=w.alloc (.cells #[.int .i64 0,strV [],.int .i64 0] 72))
 case atStart=>exact ⟨0,rfl,by omega,.inl rfl,rfl⟩
 case round =>
  obtain ⟨i,rfl,hi,hcase,rfl⟩:=hrel
  rcases hcase with rfl | ⟨rfl,hne⟩
  ·by_cases hea:e=a
   ·subst hea
    go_wp2_with (fail)
    refine bodyPost_ret (res_row [.int .i64 e,strV [],.int .i64 0] rfl rfl rfl (by kernel_rfl) HE1.out.1) rfl ?_
    exact ⟨rfl,HE1.out.2⟩
   ·have heb:(e==a)=false:=beq_eq_false_iff_ne.2 hea
    have HN:=Hdz hea
    clear hea
    go_wp2_with (fail)
    go_roundg (gk-1)
    case measure=>omega
    case rel=>exact ⟨1,rfl,by omega,.inr ⟨rfl,HN.out⟩,rfl⟩
  ·have hb':e=b:=he.resolve_left hne
   subst hb'
   clear he hne
   go_wp2_with (fail)
   refine bodyPost_ret (res_row [.int .i64 e,strV [],.int .i64 0] rfl rfl rfl (by kernel_rfl) HE1.out.1) rfl ?_
   exact ⟨rfl,HE1.out.2⟩
def KDo (F:Nat->Prop) (bb q:Nat) (s:KSt) (o:KOp) (W:World) (e:Ending) (w':World):Prop:=
 e=.returned (.tuple #[rp (doK s o).1.1 (doK s o).1.2.1 (doK s o).1.2.2,.int .i64 0])/\Sn (doK s o).2.1 F bb (q+3) (doK s o).2.2.1 (doK s o).2.2.2 w'/\Keeps F W w'
theorem chgK_small {D:DB} {o:KOp} (hD:∀ x∈D.2,x.2.length<=900):I64 (chgK D o).1/\(chgK D o).2.1.length<=1000:=by
 unfold chgK
 split
 ·exact ⟨by simp [I64],by simp⟩
 ·split
  ·exact ⟨by simp [I64],by simp⟩
  ·rename_i v hv
   have:=hD _ (getP_some hv)
   simp only at this
   split
   ·exact ⟨by simp [I64],by simp⟩
   ·split
    ·exact ⟨by simp [I64],by simp;omega⟩
    ·exact ⟨by simp [I64],by simp⟩
section
variable {D:DB} {F:Nat->Prop} {bb q n:Nat} {l:List (Nat × Ses)} {W W':World} {o:KOp}
theorem rep6 {w:World} {g:Nat} {T:TypeId} {a b c:Value} (h:Blk w g T #[a,b,c]):w.cell? ⟨g,0,none⟩=some a/\w.cell? ⟨g,1,none⟩=some b/\w.cell? ⟨g,2,none⟩=some c/\w.frozen? ⟨g,0,none⟩=false/\w.frozen? ⟨g,1,none⟩=false/\w.frozen? ⟨g,2,none⟩=false:=⟨h.cell 0,h.cell 1,h.cell 2,h.frozen 0,h.frozen 1,h.frozen 2⟩
theorem Sn.tell {D':DB} {q' n':Nat} {l':List (Nat × Ses)} {W1 W3:World} (bl:Below W.heap.size W W1) (hS:Sn D' (Fin F W.heap.size W1.heap.size) bb q' n' l' W3) (hK:Keeps (Fin F W.heap.size W1.heap.size) W1 W3) (hR:Blk W3 (W.heap.size+1) 72 #[.int .i64 0,strV [],.int .i64 0]) (hlt:W.heap.size+1<W1.heap.size) (e:Int) (v:Bytes) (m:Int) :
  Hid (Blk (((W3.setCell ⟨W.heap.size+1,0,none⟩ (.int .i64 e)).setCell ⟨W.heap.size+1,1,none⟩ (strV v)).setCell ⟨W.heap.size+1,2,none⟩ (.int .i64 m)) (W.heap.size+1) 72 #[.int .i64 e,strV v,.int .i64 m]/\Sn D' F bb q' n' l' (((W3.setCell ⟨W.heap.size+1,0,none⟩ (.int .i64 e)).setCell ⟨W.heap.size+1,1,none⟩ (strV v)).setCell ⟨W.heap.size+1,2,none⟩ (.int .i64 m))/\Keeps F W (((W3.setCell ⟨W.heap.size+1,0,none⟩ (.int .i64 e)).setCell ⟨W.heap.size+1,1,none⟩ (strV v)).setCell ⟨W.heap.size+1,2,none⟩ (.int .i64 m))):=
 have h:W.heap.size<=W.heap.size+1/\W.heap.size+1<W1.heap.size:=⟨by omega,hlt⟩
 ⟨((hR.set 0 (.int .i64 e)).set 1 (strV v)).set 2 (.int .i64 m),Sn.done bl rfl hS hK ((((Keeps.refl _ W3).setCell (p:=⟨W.heap.size+1,0,none⟩) (λ _=>h) (.int .i64 e)).setCell (p:=⟨W.heap.size+1,1,none⟩) (λ _=>h) (strV v)).setCell (p:=⟨W.heap.size+1,2,none⟩) (λ _=>h) (.int .i64 m))⟩
end
end Go.Ev
