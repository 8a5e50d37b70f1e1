/-
  Texts of this claim.
-/
import Derived.Test.YtmfoiaaehkandaaGreatDoorMOGwSess2
set_option linter.unusedVariables false
set_option linter.unusedSimpArgs false
set_option maxHeartbeats 4000000
set_option maxRecDepth 100000
namespace Go.Ev
open Go.Proofs Go.RowKit
theorem getS_good {id:Nat} {x:Ses}:∀ {l:List (Nat × Ses)},(∀ y∈l,SesGood y.2/\y.2.val.length<=2000)->getS id l=some x->SesGood x/\x.val.length<=2000
 | y :: l,h,hg=>by
  simp only [getS] at hg
  split at hg
  ·cases hg
   exact h y (List.mem_cons_self ..)
  ·exact getS_good (λ z hz=>h z (List.mem_cons_of_mem _ hz)) hg
section
variable {D:DB} {F:Nat->Prop} {bb q n:Nat} {l:List (Nat × Ses)} {W W':World}
theorem Sn.find {x:Ses} (h:Sn D F bb q n l W) (hq:q<=19000) (id:Nat) (h1:1<=id) (h8:id<=99999999) (hx:getS id l=some x) :
  Calls Tryz.prog 111 #[ptrV bb,.int .i64 (id:Int)] W λ e w'=>e=.returned (.tuple #[sesV x,.int .i64 0])/\Below W.heap.size W w':=by
 have hg:=(getS_good h.good hx).1
 have HR:=Hdz (λ W1=>read_ok x W1 hg)
 have HK:=Hdz (λ W1=>key_ok id W1 h8)
 have HG:Hid (∀ W1,Below W.heap.size W W1->Calls Tryz.prog 95 #[ptrV bb,strV sessK,strV (dig 8 id)] W1 λ e w'=>e=.returned (.tuple #[strV (layS x),.int .i64 0])/\Below W1.heap.size W1 w'):=λ W1 hb=>by
  have:=(h.below hb).get (by omega) (dig 8 id) (by rw [dig_len];omega) (by rw [dig_len];omega)
  rw [ss_get h8 h.ok,hx] at this
  exact this
 obtain ⟨kb,hkb⟩:=nmz (dig 8 id)
 obtain ⟨lb,hlb⟩:=nmz (layS x)
 rw [hkb] at HK HG
 rw [hlb] at HG HR
 have d1:decide ((id:Int)<1)=false:=decide_eq_false (by omega)
 have d2:decide ((99999999:Int)<(id:Int))=false:=decide_eq_false (by omega)
 clear h hg hkb hlb h1 h8 hx
 go_enter Tryz.func111,Tryz.ntmps111
 go_wp2_with (fail)
 go_must (refine (HK.out _).mono ?_)
 rintro e w1 ⟨rfl,hb1⟩
 have HB1:Hid (Below W.heap.size W w1):=((Below.refl _ W).alloc (Nat.le_refl _) _).trans (hb1.mono (by simp))
 have HC1:Hid (Blk w1 W.heap.size 187 #[.int .i64 0,.int .i64 0,.int .i64 0,strV [],.int .i64 0]):=Blk.below' (Blk.new _ _ _) hb1
 have HGw:=Hdz (HG.out w1 HB1.out)
 clear hb1
 go_wp2_with (fail)
 go_must (refine HGw.out.mono ?_)
 rintro e w2 ⟨rfl,hb2⟩
 have HB2:=Hdz (HB1.out.trans (hb2.mono HB1.out.size))
 have HC2:=Hdz (Blk.below' HC1.out hb2)
 have HRw:=Hdz (HR.out w2)
 clear hb2
 go_wp2_with (fail)
 go_must (refine HRw.out.mono ?_)
 rintro e w3 ⟨rfl,hb3⟩
 have HB3:=Hdz (HB2.out.trans (hb3.mono HB2.out.size))
 have bz:=Blk.below' HC2.out hb3
 have HBz:=Hdz bz
 have z0:=bz.cell 0
 have z1:=bz.cell 1
 have z2:=bz.cell 2
 have z3:=bz.cell 3
 have z4:=bz.cell 4
 have f0:=bz.frozen 0
 have f1:=bz.frozen 1
 have f2:=bz.frozen 2
 have f3:=bz.frozen 3
 have f4:=bz.frozen 4
 clear hb3 bz
 go_wp2_with (fail)
 have hfin:=((((HBz.out.set 0 (.int .i64 x.who)).set 1 (.int .i64 x.seq)).set 2 (.int .i64 x.err)).set 3 (strV x.val)).set 4 (.int .i64 x.num)
 refine bodyPost_ret (res_row [.int .i64 x.who,.int .i64 x.seq,.int .i64 x.err,strV x.val,.int .i64 x.num] rfl rfl rfl (by kernel_rfl) hfin) rfl ?_
 have KF:=(((((Keeps.refl (λ k=>k=W.heap.size) w3).setCell (p:=⟨W.heap.size,0,none⟩) (λ _=>rfl) (.int .i64 x.who)).setCell (p:=⟨W.heap.size,1,none⟩) (λ _=>rfl) (.int .i64 x.seq)).setCell (p:=⟨W.heap.size,2,none⟩) (λ _=>rfl) (.int .i64 x.err)).setCell (p:=⟨W.heap.size,3,none⟩) (λ _=>rfl) (strV x.val)).setCell (p:=⟨W.heap.size,4,none⟩) (λ _=>rfl) (.int .i64 x.num)
 exact ⟨rfl,HB3.out.trans (KF.below HB3.out.size λ i hi e=>by omega)⟩
abbrev noSes:Ses:=⟨0,0,0,0,[]⟩
theorem Sn.findNo (h:Sn D F bb q n l W) (hq:q<=19000) (id:Nat) (h1:1<=id) (h8:id<=99999999) (hx:getS id l=none) :
  Calls Tryz.prog 111 #[ptrV bb,.int .i64 (id:Int)] W λ e w'=>e=.returned (.tuple #[sesV noSes,.int .i64 24])/\Below W.heap.size W w':=by
 have HK:=Hdz (λ W1=>key_ok id W1 h8)
 have HG:Hid (∀ W1,Below W.heap.size W W1->Calls Tryz.prog 95 #[ptrV bb,strV sessK,strV (dig 8 id)] W1 λ e w'=>e=.returned (.tuple #[strV [],.int .i64 7])/\Below W1.heap.size W1 w'):=λ W1 hb=>by
  have:=(h.below hb).get (by omega) (dig 8 id) (by rw [dig_len];omega) (by rw [dig_len];omega)
  rw [ss_get h8 h.ok,hx] at this
  exact this
 have HT:Hid (∀ W1,Below W.heap.size W W1->Calls Tryz.prog 35 #[ptrV bb,strV sessK] W1 λ e w'=>(∃ r:Int,e=.returned (.tuple #[.int .i64 r,.int .i64 0]))/\Below W1.heap.size W1 w'):=λ W1 hb=>(h.below hb).tree (by omega)
 obtain ⟨kb,hkb⟩:=nmz (dig 8 id)
 rw [hkb] at HK HG
 have d1:decide ((id:Int)<1)=false:=decide_eq_false (by omega)
 have d2:decide ((99999999:Int)<(id:Int))=false:=decide_eq_false (by omega)
 clear h hkb h1 h8 hx
 go_enter Tryz.func111,Tryz.ntmps111
 go_wp2_with (fail)
 go_must (refine (HK.out _).mono ?_)
 rintro e w1 ⟨rfl,hb1⟩
 have HB1:Hid (Below W.heap.size W w1):=((Below.refl _ W).alloc (Nat.le_refl _) _).trans (hb1.mono (by simp))
 have HC1:Hid (Blk w1 W.heap.size 187 #[.int .i64 0,.int .i64 0,.int .i64 0,strV [],.int .i64 0]):=Blk.below' (Blk.new _ _ _) hb1
 have HGw:=Hdz (HG.out w1 HB1.out)
 clear hb1
 go_wp2_with (fail)
 go_must (refine HGw.out.mono ?_)
 rintro e w2 ⟨rfl,hb2⟩
 have HB2:=Hdz (HB1.out.trans (hb2.mono HB1.out.size))
 have HC2:=Hdz (Blk.below' HC1.out hb2)
 have HTw:=Hdz (HT.out w2 HB2.out)
 clear hb2
 go_wp2_with (fail)
 go_must (refine HTw.out.mono ?_)
 rintro e w3 ⟨⟨r,rfl⟩,hb3⟩
 have HB3:=Hdz (HB2.out.trans (hb3.mono HB2.out.size))
 have bz:=Blk.below' HC2.out hb3
 have HBz:=Hdz bz
 have z0:=bz.cell 0
 have z1:=bz.cell 1
 have z2:=bz.cell 2
 have z3:=bz.cell 3
 have z4:=bz.cell 4
 have f0:=bz.frozen 0
 have f1:=bz.frozen 1
 have f2:=bz.frozen 2
 have f3:=bz.frozen 3
 have f4:=bz.frozen 4
 clear hb3 bz
 go_wp2_with (fail)
 have hfin:=((((HBz.out.set 0 (.int .i64 0)).set 1 (.int .i64 0)).set 2 (.int .i64 0)).set 3 (strV [])).set 4 (.int .i64 0)
 refine bodyPost_ret (res_row [.int .i64 0,.int .i64 0,.int .i64 0,strV [],.int .i64 0] rfl rfl rfl (by kernel_rfl) hfin) rfl ?_
 have KF:=(((((Keeps.refl (λ k=>k=W.heap.size) w3).setCell (p:=⟨W.heap.size,0,none⟩) (λ _=>rfl) (.int .i64 0)).setCell (p:=⟨W.heap.size,1,none⟩) (λ _=>rfl) (.int .i64 0)).setCell (p:=⟨W.heap.size,2,none⟩) (λ _=>rfl) (.int .i64 0)).setCell (p:=⟨W.heap.size,3,none⟩) (λ _=>rfl) (strV [])).setCell (p:=⟨W.heap.size,4,none⟩) (λ _=>rfl) (.int .i64 0)
 exact ⟨rfl,HB3.out.trans (KF.below HB3.out.size λ i hi e=>by omega)⟩
end
def lookS (l:List (Nat × Ses)) (id:Int):Option Ses:=if 1<=id/\id<=99999999 then getS id.toNat l else none
theorem lookS_nat {l:List (Nat × Ses)} {id:Nat} (h1:1<=id) (h8:id<=99999999):lookS l (id:Int)=getS id l:=by
 unfold lookS
 rw [if_pos ⟨by omega,by omega⟩,Int.toNat_natCast]
theorem lookS_some {l:List (Nat × Ses)} {id:Int} {x:Ses} (h:lookS l id=some x):∃ k:Nat,id=(k:Int)/\1<=k/\k<=99999999/\getS k l=some x:=by
 unfold lookS at h
 split at h
 ·rename_i hh
  exact ⟨id.toNat,by omega,by omega,by omega,h⟩
 ·cases h
def foundV (o:Option Ses):Value:=.tuple #[sesV (o.getD noSes),.int .i64 (if o.isSome then 0 else 24)]
section
variable {D:DB} {F:Nat->Prop} {bb q n:Nat} {l:List (Nat × Ses)} {W W':World}
theorem Sn.findBad (h:Sn D F bb q n l W) (hq:q<=19000) (id:Int) (hid:id<1\/99999999<id) :
  Calls Tryz.prog 111 #[ptrV bb,.int .i64 id] W λ e w'=>e=.returned (.tuple #[sesV noSes,.int .i64 24])/\Below W.heap.size W w':=by
 have HT:Hid (∀ W1,Below W.heap.size W W1->Calls Tryz.prog 35 #[ptrV bb,strV sessK] W1 λ e w'=>(∃ r:Int,e=.returned (.tuple #[.int .i64 r,.int .i64 0]))/\Below W1.heap.size W1 w'):=λ W1 hb=>(h.below hb).tree (by omega)
 clear h
 by_cases h1:id<1
 ·have d1:decide (id<1)=true:=decide_eq_true h1
  clear hid
  go_enter Tryz.func111,Tryz.ntmps111
  go_wp2_with (fail)
  go_must (refine (HT.out _ ((Below.refl _ W).alloc (Nat.le_refl _) _)).mono ?_)
  rintro e w1 ⟨⟨r,rfl⟩,hb1⟩
  have HB3:Hid (Below W.heap.size W w1):=((Below.refl _ W).alloc (Nat.le_refl _) _).trans (hb1.mono (by simp))
  have bz:Blk w1 W.heap.size 187 #[.int .i64 0,.int .i64 0,.int .i64 0,strV [],.int .i64 0]:=Blk.below' (Blk.new _ _ _) hb1
  have HBz:=Hdz bz
  have z0:=bz.cell 0
  have z1:=bz.cell 1
  have z2:=bz.cell 2
  have z3:=bz.cell 3
  have z4:=bz.cell 4
  have f0:=bz.frozen 0
  have f1:=bz.frozen 1
  have f2:=bz.frozen 2
  have f3:=bz.frozen 3
  have f4:=bz.frozen 4
  clear hb1 bz
  go_wp2_with (fail)
  have hfin:=((((HBz.out.set 0 (.int .i64 0)).set 1 (.int .i64 0)).set 2 (.int .i64 0)).set 3 (strV [])).set 4 (.int .i64 0)
  refine bodyPost_ret (res_row [.int .i64 0,.int .i64 0,.int .i64 0,strV [],.int .i64 0] rfl rfl rfl (by kernel_rfl) hfin) rfl ?_
  have KF:=(((((Keeps.refl (λ k=>k=W.heap.size) w1).setCell (p:=⟨W.heap.size,0,none⟩) (λ _=>rfl) (.int .i64 0)).setCell (p:=⟨W.heap.size,1,none⟩) (λ _=>rfl) (.int .i64 0)).setCell (p:=⟨W.heap.size,2,none⟩) (λ _=>rfl) (.int .i64 0)).setCell (p:=⟨W.heap.size,3,none⟩) (λ _=>rfl) (strV [])).setCell (p:=⟨W.heap.size,4,none⟩) (λ _=>rfl) (.int .i64 0)
  exact ⟨rfl,HB3.out.trans (KF.below HB3.out.size λ i hi e=>by omega)⟩
 ·have d1:decide (id<1)=false:=decide_eq_false h1
  have h2:99999999<id:=by omega
  have d2:decide ((99999999:Int)<id)=true:=decide_eq_true h2
  clear hid h2 h1
  go_enter Tryz.func111,Tryz.ntmps111
  go_wp2_with (fail)
  go_must (refine (HT.out _ ((Below.refl _ W).alloc (Nat.le_refl _) _)).mono ?_)
  rintro e w1 ⟨⟨r,rfl⟩,hb1⟩
  have HB3:Hid (Below W.heap.size W w1):=((Below.refl _ W).alloc (Nat.le_refl _) _).trans (hb1.mono (by simp))
  have bz:Blk w1 W.heap.size 187 #[.int .i64 0,.int .i64 0,.int .i64 0,strV [],.int .i64 0]:=Blk.below' (Blk.new _ _ _) hb1
  have HBz:=Hdz bz
  have z0:=bz.cell 0
  have z1:=bz.cell 1
  have z2:=bz.cell 2
  have z3:=bz.cell 3
  have z4:=bz.cell 4
  have f0:=bz.frozen 0
  have f1:=bz.frozen 1
  have f2:=bz.frozen 2
  have f3:=bz.frozen 3
  have f4:=bz.frozen 4
  clear hb1 bz
  go_wp2_with (fail)
  have hfin:=((((HBz.out.set 0 (.int .i64 0)).set 1 (.int .i64 0)).set 2 (.int .i64 0)).set 3 (strV [])).set 4 (.int .i64 0)
  refine bodyPost_ret (res_row [.int .i64 0,.int .i64 0,.int .i64 0,strV [],.int .i64 0] rfl rfl rfl (by kernel_rfl) hfin) rfl ?_
  have KF:=(((((Keeps.refl (λ k=>k=W.heap.size) w1).setCell (p:=⟨W.heap.size,0,none⟩) (λ _=>rfl) (.int .i64 0)).setCell (p:=⟨W.heap.size,1,none⟩) (λ _=>rfl) (.int .i64 0)).setCell (p:=⟨W.heap.size,2,none⟩) (λ _=>rfl) (.int .i64 0)).setCell (p:=⟨W.heap.size,3,none⟩) (λ _=>rfl) (strV [])).setCell (p:=⟨W.heap.size,4,none⟩) (λ _=>rfl) (.int .i64 0)
  exact ⟨rfl,HB3.out.trans (KF.below HB3.out.size λ i hi e=>by omega)⟩
theorem Sn.found (h:Sn D F bb q n l W) (hq:q<=19000) (id:Int) :
  Calls Tryz.prog 111 #[ptrV bb,.int .i64 id] W λ e w'=>e=.returned (foundV (lookS l id))/\Below W.heap.size W w':=by
 by_cases hid:1<=id/\id<=99999999
 ·obtain ⟨k,rfl⟩:∃ k:Nat,id=(k:Int):=⟨id.toNat,by omega⟩
  rw [lookS_nat (by omega) (by omega)]
  cases hx:getS k l with
  | none=>exact h.findNo hq k (by omega) (by omega) hx
  | some x=>exact h.find hq k (by omega) (by omega) hx
 ·have:lookS l id=none:=if_neg hid
  rw [this]
  exact h.findBad hq id (by omega)
theorem getS_mem_len {id:Nat} {x:Ses}:∀ {l:List (Nat × Ses)},getS id l=some x->(delS id l).length+1=l.length
 | y :: l,hg=>by
  simp only [getS] at hg
  simp only [delS]
  by_cases e:y.1=id
  ·rw [if_pos e];rfl
  ·rw [if_neg e] at hg ⊢
   have:=getS_mem_len hg
   simp only [List.length_cons]
   omega
theorem Sn.expireNo (h:Sn D F bb q n l W) (hq:q<=19000) (id:Int) (hx:lookS l id=none) :
  Calls Tryz.prog 68 #[ptrV bb,.int .i64 id] W λ e w'=>e=.returned (.int .i64 24)/\Below W.heap.size W w':=by
 have HF:=Hdz (h.found hq id)
 rw [hx] at HF
 clear h hx
 go_enter Tryz.func68,Tryz.ntmps68
 go_wp2_with (fail)
 go_must (refine HF.out.mono ?_)
 rintro e w1 ⟨rfl,hb1⟩
 have HB1:=Hdz hb1
 clear hb1
 unfold foundV
 go_wp2_with (fail)
 go_ret
 exact ⟨rfl,HB1.out.alloc HB1.out.size _⟩
theorem Sn.expire {x:Ses} (h:Sn D F bb q n l W) (hq:q<=19000) (id:Nat) (h1:1<=id) (h8:id<=99999999) (hx:getS id l=some x) :
  Calls Tryz.prog 68 #[ptrV bb,.int .i64 (id:Int)] W λ e w'=>e=.returned (.int .i64 0)/\Sn D F bb (q+1) n (delS id l) w'/\Keeps F W w':=by
 have HF:=Hdz (h.found hq (id:Int))
 rw [lookS_nat h1 h8,hx] at HF
 have HK:=Hdz (λ W1=>key_ok id W1 h8)
 have HH:=Hdz h
 have HD:Hid (∀ W1,Sn D F bb q n l W1->Calls Tryz.prog 86 #[ptrV bb,strV sessK,strV (dig 8 id)] W1 λ e w'=>e=.returned (.int .i64 0)/\Sn D F bb (q+1) n (delS id l) w'/\Keeps F W1 w'):=λ W1 hS=>by
  refine hS.del (by omega) (dig 8 id) (by rw [dig_len];omega) (by rw [dig_len];omega) ?_ (ss_del h8 hS.ok) hS.ok.del (λ y hy=>hS.good y (delS_mem hy)) (by have:=getS_mem_len hx;have:=hS.few;omega)
  rw [ss_get h8 hS.ok,hx]
  rfl
 obtain ⟨kb,hkb⟩:=nmz (dig 8 id)
 rw [hkb] at HK HD
 clear h hx hkb h1 h8
 go_enter Tryz.func68,Tryz.ntmps68
 go_wp2_with (fail)
 go_must (refine HF.out.mono ?_)
 rintro e w1 ⟨rfl,hb1⟩
 have hba:Below w1.heap.size w1 (w1.alloc (.cells #[.int .i64 x.who,.int .i64 x.seq,.int .i64 x.err,strV x.val,.int .i64 x.num] 187)):=(Below.refl _ _).alloc (Nat.le_refl _) _
 have HS1:=Hdz ((HH.out.below hb1).below hba)
 have HB1:Hid (Keeps F W (w1.alloc (.cells #[.int .i64 x.who,.int .i64 x.seq,.int .i64 x.err,strV x.val,.int .i64 x.num] 187))):=(Keeps.of_below hb1).then hba
 have HK1:=Hdz (HK.out (w1.alloc (.cells #[.int .i64 x.who,.int .i64 x.seq,.int .i64 x.err,strV x.val,.int .i64 x.num] 187)))
 clear hb1 hba
 unfold foundV
 go_wp2_with (fail)
 go_must (refine HK1.out.mono ?_)
 rintro e w2 ⟨rfl,hb2⟩
 have HS2:=Hdz (HS1.out.below hb2)
 have HB2:Hid (Keeps F W w2):=HB1.out.then hb2
 have HD2:=Hdz (HD.out w2 HS2.out)
 clear hb2
 go_wp2_with (fail)
 go_must (refine HD2.out.mono ?_)
 rintro e w3 ⟨rfl,hS3,hb3⟩
 have HE:=Hdz (Anz hS3 (HB2.out.go hb3))
 clear hS3 hb3
 go_wp2_with (fail)
 go_ret
 exact ⟨rfl,HE.out⟩
end
end Go.Ev
